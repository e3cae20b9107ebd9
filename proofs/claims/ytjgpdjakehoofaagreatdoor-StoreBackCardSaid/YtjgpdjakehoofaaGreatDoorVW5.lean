/- Texts of the prover's, joined: DG R1 R2 R3 F1 F2 F3 F0 F4 F5 G1 G2 G3 G4. -/
import Derived.Test.YtjgpdjakehoofaaGreatDoorVW4
import Derived.Test.YtjgpdjakehoofaaGreatDoorProg
import Derived.KernelRfl
import Derived.ChangeArms
import Derived.Test.YtjgpdjakehoofaaGreatDoorRows
import Derived.WalkKit
import Derived.ProofKit
import Derived.OpenShut
import Derived.LaidMore
import Derived.Lay
import Derived.Carry
import Derived.SevenTiedAt
import Derived.ChangeOld
import Derived.Below
import Derived.Stop.Joined
import Derived.Lib.Bytealg
import Derived.Lib.Walk
import Derived.BigCall
import Derived.BigGuard
import Derived.Deep.Draws
import Derived.Deep.LoopGhost
import Derived.Lib.ConvBytes
import Derived.Laws.BytesString

namespace Go.Proofs.YtjgpdjakehoofaaGreatDoor
open Go

def ac_zmweq : AC := (sr [oo 2 (.box 25 (tp 0)),oo 3 (.box 47 (tp 1)),oo 4 (.mv (cq false))] [2,3] (.seq (.draw [oo 13 (.load (some 4) (tp 2)),oo 14 (.call 13 [tp 13]),oo 15 (.load (some 13) (tp 3)),oo 16 (.call 28 [tp 15]),.mk none none (.store 4 (tp 2) (tp 14)),.mk none none (.store 13 (tp 3) (tp 16))] [0,1,0,7,15,31] (.take 0 (.take 2 (.alts (.cons 1 false (.alts (.cons 3 true (.alts (.cons 4 true (.alts (.cons 5 true .done .nil)) .nil)) .nil)) .nil)))) (some [2,3])) (.seq (sr [fi 17 0 2,lq 18 17,oo 19 (.bin .gtr (tp 18) (ci 1099511627772))] [2,3,19] (.cond (tp 19) (sr [oo 20 (.call 16 []),mq 4 20] [4] .ret) .skip)) (sr [oo 22 (.load (some 4) (tp 2)),oo 23 (.load (some 13) (tp 3)),oo 24 (.call 29 [tp 22,tp 23]),mq 21 24,oo 25 (.extract (tp 21) 0),oo 26 (.extract (tp 21) 1),oo 5 (.alloc 25 [.pd (.raw (.int .i64 0)),.pd (.raw (.int .i64 0)),.nils,.nils]),.mk none none (.store 4 (tp 5) (tp 25)),mq 6 26] [2,3,5,6] (.seq (sr [mq 27 6,oo 28 (.bin .neq (tp 27) (ci 0))] [2,3,5,28] (.cond (tp 28) (sr [oo 29 (.load (some 4) (tp 5)),oo 30 (.load (some 4) (tp 2)),oo 31 (.call 24 [tp 29,tp 30]),mq 32 31,og 32 true 33 (.call 16 []),oo 34 (.pick (tp 32) (tp 33) (cq false)),mq 4 34] [4] .ret) .skip)) (sr [oo 36 (.load (some 4) (tp 5)),fi 37 0 3,oo 38 (.load (some 3) (tp 37)),oo 39 (.call 30 [tp 36,tp 38,ci 0]),mq 35 39,oo 40 (.extract (tp 35) 0),oo 41 (.extract (tp 35) 1),oo 7 (.alloc 25 [.pd (.raw (.int .i64 0)),.pd (.raw (.int .i64 0)),.nils,.nils]),.mk none none (.store 4 (tp 7) (tp 40)),mq 8 41] [2,3,5,7,8] (sr [oo 43 (.load (some 4) (tp 7)),oo 44 (.load (some 13) (tp 3)),oo 45 (.call 29 [tp 43,tp 44]),mq 42 45,oo 46 (.extract (tp 42) 0),oo 47 (.extract (tp 42) 1),oo 9 (.alloc 25 [.pd (.raw (.int .i64 0)),.pd (.raw (.int .i64 0)),.nils,.nils]),.mk none none (.store 4 (tp 9) (tp 46)),mq 10 47] [2,3,5,7,8,9,10] (sr [oo 49 (.load (some 4) (tp 9)),fi 50 0 3,oo 51 (.load (some 3) (tp 50)),oo 52 (.call 19 [tp 49,tp 51]),mq 48 52,oo 53 (.extract (tp 48) 0),oo 54 (.extract (tp 48) 1),oo 11 (.alloc 50 [.pd (.raw (.int .i64 0)),.pd (.raw (.string ⟨#[]⟩)),.pd (.raw (.string ⟨#[]⟩)),.pd (.raw (.bool false)),.nils,.nils,.pd (.raw (.string ⟨#[]⟩)),.nils,.nils,.nils,.nils,.nils,.nils,.pd (.raw (.int .i64 0)),.pd (.raw (.int .i64 0)),.pd (.raw (.int .i64 0)),.nils]),.mk none none (.store 17 (tp 11) (tp 53)),mq 12 54] [2,5,7,8,9,10,11,12] (.seq (.draw [mq 55 8,oo 56 (.bin .eql (tp 55) (ci 0)),mq 57 56,og 57 true 58 (.mv (tp 10)),og 57 true 59 (.bin .eql (tp 58) (ci 0)),oo 60 (.pick (tp 57) (tp 59) (cq false)),mq 61 60,og 61 true 62 (.mv (tp 12)),og 61 true 63 (.bin .eql (tp 62) (ci 0)),oo 64 (.pick (tp 61) (tp 63) (cq false)),mq 65 64,og 65 true 66 (.load (some 4) (tp 7)),og 65 true 67 (.call 26 [tp 66]),og 65 true 68 (.load (some 4) (tp 2)),og 65 true 69 (.call 26 [tp 68]),og 65 true 70 (.call 25 [tp 67,tp 69]),oo 71 (.pick (tp 65) (tp 70) (cq false)),mq 72 71,og 72 true 73 (.fieldA 14 (tp 11)),og 72 true 74 (.load none (tp 73)),og 72 true 75 (.bin .eql (tp 74) (ci 1)),oo 76 (.pick (tp 72) (tp 75) (cq false)),mq 77 76,og 77 true 78 (.fieldA 15 (tp 11)),og 77 true 79 (.load none (tp 78)),og 77 true 80 (.fieldA 0 (tp 2)),og 77 true 81 (.load none (tp 80)),og 77 true 82 (.bin .add (tp 81) (ci 3)),og 77 true 83 (.bin .eql (tp 79) (tp 82)),oo 84 (.pick (tp 77) (tp 83) (cq false)),mq 85 84,og 85 true 86 (.load (some 4) (tp 9)),og 85 true 87 (.call 26 [tp 86]),og 85 true 88 (.load (some 4) (tp 5)),og 85 true 89 (.call 26 [tp 88]),og 85 true 90 (.call 25 [tp 87,tp 89]),oo 91 (.pick (tp 85) (tp 90) (cq false)),mq 92 91,og 92 true 93 (.call 16 []),oo 94 (.pick (tp 92) (tp 93) (cq false)),mq 4 94] [0,1,3,7,15,31,63,127,255,511,1023,2047,4095,2047,16383,32767,65535,131071,262143,524287,1048575,2097151,4194303,8388607,16777215,8388607,41943039,109051903,268435455,536870911,1073741823,2147483647,4294967295,2147483647,17179869183,34359738367,68719476735,137438953471,274877906943,549755813887,1099511627775] (.take 0 (.take 1 (.take 2 (.take 3 (.take 4 (.take 5 (.take 6 (.take 7 (.take 8 (.take 9 (.take 10 (.take 11 (.take 13 (.alts (.cons 12 false (.alts (.cons 14 true (.alts (.cons 15 true (.take 16 (.take 17 (.take 18 (.take 19 (.take 20 (.take 21 (.take 22 (.take 23 (.take 24 (.take 25 (.take 26 (.take 27 (.take 28 (.take 29 (.take 30 (.take 31 (.take 33 (.alts (.cons 32 false (.alts (.cons 34 true (.alts (.cons 35 true (.take 36 (.take 37 (.alts (.cons 38 true (.take 39 (.take 40 .done)) .nil)))) .nil)) .nil)) .nil))))))))))))))))))) .nil)) .nil)) .nil))))))))))))))) (some [4])) .ret)))))))))
def an_zmweq : Ann := ann (List.range 11) ac_zmweq
theorem ok_zmweq : okd Tryz.prog an_zmweq ac_zmweq Tryz.f5 := ⟨by kernel_rfl, by kernel_rfl⟩

def ac_z98z1 : AC := (sr [oo 1 (.box 25 (tp 0)),oo 2 (.alloc 25 [.pd (.raw (.int .i64 0)),.pd (.raw (.int .i64 0)),.nils,.nils])] [1,2] (sr [fi 7 0 1,lq 8 7,fi 9 1 1,lq 10 9,oo 11 (.build [.pd (.raw (.int .i64 0)),.pd (.raw (.int .i64 0)),.nils,.nils] [(0,1,tp 8),(1,1,tp 10)]),oo 3 (.alloc 25 [.pd (.raw (.int .i64 0)),.pd (.raw (.int .i64 0)),.nils,.nils]),.mk none none (.store 4 (tp 3) (tp 11))] [1,2,3] (.seq (sr [oo 4 (.mv (ci 0))] [1,2,3,4] (.block 0 (.loop (.seq (sr [mq 12 4,fi 13 2 1,lq 14 13,oo 15 (.len (tp 14) false),oo 16 (.bin .lss (tp 12) (tp 15)),mq 17 16,og 17 true 18 (.mv (tp 4)),og 17 true 19 (.bin .lss (tp 18) (ci 41)),oo 20 (.pick (tp 17) (tp 19) (cq false))] [1,2,3,4,20] (.cond (tp 20) .skip (.exit 0))) (.seq (.block 1 (sr [fi 23 2 1,lq 24 23,mq 25 4,oo 26 (.idxA 17 (tp 24) (tp 25)),oo 27 (.load (some 17) (tp 26)),oo 5 (.alloc 50 [.pd (.raw (.int .i64 0)),.pd (.raw (.string ⟨#[]⟩)),.pd (.raw (.string ⟨#[]⟩)),.pd (.raw (.bool false)),.nils,.nils,.pd (.raw (.string ⟨#[]⟩)),.nils,.nils,.nils,.nils,.nils,.nils,.pd (.raw (.int .i64 0)),.pd (.raw (.int .i64 0)),.pd (.raw (.int .i64 0)),.nils]),.mk none none (.store 17 (tp 5) (tp 27))] [1,2,3,4,5] (.draw [fi 28 2 3,lq 29 28,fi 30 0 5,oo 31 (.load (some 13) (tp 30)),oo 32 (.call 28 [tp 31]),fi 33 13 5,lq 34 33,fi 35 14 5,lq 36 35,fi 37 15 5,lq 38 37,fi 39 16 5,lq 40 39,oo 41 (.call 36 [tp 40]),oo 42 (.build [.pd (.raw (.int .i64 0)),.pd (.raw (.string ⟨#[]⟩)),.pd (.raw (.string ⟨#[]⟩)),.pd (.raw (.bool false)),.nils,.nils,.pd (.raw (.string ⟨#[]⟩)),.nils,.nils,.nils,.nils,.nils,.nils,.pd (.raw (.int .i64 0)),.pd (.raw (.int .i64 0)),.pd (.raw (.int .i64 0)),.nils] [(0,13,tp 32),(13,1,tp 34),(14,1,tp 36),(15,1,tp 38),(16,1,tp 41)]),oo 43 (.bslice 50 17 [tp 42]),oo 44 (.append 50 17 304 (tp 29) (tp 43)),fi 45 2 3,.mk none none (.store 1 (tp 45) (tp 44))] [0,1,0,4,12,0,32,0,128,0,512,0,2048,6172,16380,32764,65535,131071,262143] (.take 0 (.take 1 (.take 2 (.take 3 (.take 5 (.take 6 (.take 7 (.take 8 (.take 9 (.take 10 (.take 11 (.take 12 (.alts (.cons 4 false (.alts (.cons 13 false (.take 14 (.alts (.cons 15 false (.alts (.cons 16 true (.take 17 (.alts (.cons 18 true .done .nil))) .nil)) .nil))) .nil)) .nil)))))))))))))) (some [1,2,3,4])))) (.region [mq 21 4,oo 22 (.bin .add (tp 21) (ci 1)),mq 4 22] (some [1,2,3,4]))))))) (.seq (sr [oo 6 (.mv (ci 0))] [1,2,3,6] (.block 2 (.loop (.seq (sr [mq 46 6,fi 47 3 1,lq 48 47,oo 49 (.len (tp 48) false),oo 50 (.bin .lss (tp 46) (tp 49)),mq 51 50,og 51 true 52 (.mv (tp 6)),og 51 true 53 (.bin .lss (tp 52) (ci 17)),oo 54 (.pick (tp 51) (tp 53) (cq false))] [1,2,3,6,54] (.cond (tp 54) .skip (.exit 2))) (.seq (.block 3 (.draw [fi 57 3 3,lq 58 57,fi 59 3 1,lq 60 59,mq 61 6,oo 62 (.idxA 4 (tp 60) (tp 61)),fi 63 0 62,lq 64 63,fi 65 3 1,lq 66 65,mq 67 6,oo 68 (.idxA 4 (tp 66) (tp 67)),fi 69 1 68,oo 70 (.load (some 3) (tp 69)),oo 71 (.call 18 [tp 70]),oo 72 (.build [.pd (.raw (.int .i64 0)),.pd (.raw (.int .i64 0)),.pd (.raw (.string ⟨#[]⟩)),.pd (.raw (.string ⟨#[]⟩))] [(0,1,tp 64),(1,3,tp 71)]),oo 73 (.bslice 78 4 [tp 72]),oo 74 (.append 78 4 48 (tp 58) (tp 73)),fi 75 3 3,.mk none none (.store 1 (tp 75) (tp 74))] [0,1,0,4,0,28,60,124,0,256,0,1792,3840,7936,16128,32764,65532,131071,262143,524287] (.take 0 (.take 1 (.take 2 (.take 3 (.take 4 (.take 5 (.take 6 (.take 7 (.take 8 (.take 9 (.take 10 (.take 11 (.take 12 (.take 13 (.alts (.cons 14 false (.take 15 (.alts (.cons 16 false (.alts (.cons 17 true (.take 18 (.alts (.cons 19 true .done .nil))) .nil)) .nil))) .nil)))))))))))))))) (some [1,2,3,6]))) (.region [mq 55 6,oo 56 (.bin .add (tp 55) (ci 1)),mq 6 56] (some [1,2,3,6]))))))) (sr [oo 76 (.load (some 4) (tp 3)),.mk none none (.store 4 (tp 2) (tp 76))] [2] .ret)))))
def an_z98z1 : Ann := ann [0,1,2,3,5,6,4,7,8,10,9,11] ac_z98z1
theorem ok_z98z1 : okd Tryz.prog an_z98z1 ac_z98z1 Tryz.f13 := ⟨by kernel_rfl, by kernel_rfl⟩
theorem ret_z98z1 (st : St) : resD Tryz.prog st Tryz.f13.results.toList = resA st [.cell 2 (some 4)] := resD_of (by kernel_rfl)

def ac_zzimm : AC := (sr [oo 1 (.box 25 (tp 0)),oo 2 (.mv (ci 0))] [1] (.seq (sr [fi 7 0 1,lq 8 7,oo 9 (.bin .lss (tp 8) (ci 0)),mq 10 9,og 10 false 11 (.fieldA 0 (tp 1)),og 10 false 12 (.load none (tp 11)),og 10 false 13 (.bin .gtr (tp 12) (ci 1099511627775)),oo 14 (.pick (tp 10) (cq true) (tp 13)),mq 15 14,og 15 false 16 (.fieldA 1 (tp 1)),og 15 false 17 (.load none (tp 16)),og 15 false 18 (.bin .lss (tp 17) (ci 0)),oo 19 (.pick (tp 15) (cq true) (tp 18)),mq 20 19,og 20 false 21 (.fieldA 1 (tp 1)),og 20 false 22 (.load none (tp 21)),og 20 false 23 (.fieldA 0 (tp 1)),og 20 false 24 (.load none (tp 23)),og 20 false 25 (.bin .gtr (tp 22) (tp 24)),oo 26 (.pick (tp 20) (cq true) (tp 25)),mq 27 26,og 27 false 28 (.fieldA 3 (tp 1)),og 27 false 29 (.load none (tp 28)),og 27 false 30 (.len (tp 29) false),og 27 false 31 (.bin .gtr (tp 30) (ci 16)),oo 32 (.pick (tp 27) (cq true) (tp 31)),mq 33 32,og 33 false 34 (.fieldA 3 (tp 1)),og 33 false 35 (.load none (tp 34)),og 33 false 36 (.len (tp 35) false),og 33 false 37 (.fieldA 0 (tp 1)),og 33 false 38 (.load none (tp 37)),og 33 false 39 (.fieldA 1 (tp 1)),og 33 false 40 (.load none (tp 39)),og 33 false 41 (.bin .sub (tp 38) (tp 40)),og 33 false 42 (.bin .neq (tp 36) (tp 41)),oo 43 (.pick (tp 33) (cq true) (tp 42)),mq 44 43,og 44 false 45 (.fieldA 2 (tp 1)),og 44 false 46 (.load none (tp 45)),og 44 false 47 (.len (tp 46) false),og 44 false 48 (.bin .gtr (tp 47) (ci 40)),oo 49 (.pick (tp 44) (cq true) (tp 48))] [1,49] (.cond (tp 49) (sr [oo 2 (.mv (ci 1))] [2] .ret) .skip)) (.seq (sr [fi 50 3 1,lq 51 50,oo 52 (.len (tp 51) false),oo 53 (.mv (ci 0))] [1,51,52,53] (.block 0 (.loop (sr [oo 54 (.bin .lss (tp 53) (tp 52))] [1,51,52,53,54] (.seq (.cond (tp 54) .skip (.exit 0)) (.seq (.block 1 (sr [mq 55 53,oo 56 (.idxA 4 (tp 51) (tp 53)),oo 57 (.load (some 4) (tp 56)),oo 4 (.alloc 78 [.pd (.raw (.int .i64 0)),.pd (.raw (.int .i64 0)),.pd (.raw (.string ⟨#[]⟩)),.pd (.raw (.string ⟨#[]⟩))]),mq 3 55,.mk none none (.store 4 (tp 4) (tp 57))] [1,3,4,51,52,53] (sr [fi 58 0 4,lq 59 58,fi 60 1 1,lq 61 60,oo 62 (.bin .add (tp 61) (ci 1)),mq 63 3,oo 64 (.bin .add (tp 62) (tp 63)),oo 65 (.bin .neq (tp 59) (tp 64)),mq 66 65,og 66 false 67 (.fieldA 1 (tp 4)),og 66 false 68 (.load (some 3) (tp 67)),og 66 false 69 (.call 44 [tp 68]),og 66 false 70 (.un .not (tp 69)),oo 71 (.pick (tp 66) (cq true) (tp 70))] [1,51,52,53,71] (.cond (tp 71) (sr [oo 2 (.mv (ci 1))] [2] .ret) .skip)))) (.region [oo 72 (.bin .add (tp 53) (ci 1)),mq 53 72] (some [1,51,52,53])))))))) (.seq (sr [fi 73 2 1,lq 74 73,oo 75 (.len (tp 74) false),oo 76 (.mv (ci 0))] [1,74,75,76] (.block 2 (.loop (sr [oo 77 (.bin .lss (tp 76) (tp 75))] [1,74,75,76,77] (.seq (.cond (tp 77) .skip (.exit 2)) (.seq (.block 3 (sr [mq 78 76,oo 79 (.idxA 17 (tp 74) (tp 76)),oo 80 (.load (some 17) (tp 79)),oo 6 (.alloc 50 [.pd (.raw (.int .i64 0)),.pd (.raw (.string ⟨#[]⟩)),.pd (.raw (.string ⟨#[]⟩)),.pd (.raw (.bool false)),.nils,.nils,.pd (.raw (.string ⟨#[]⟩)),.nils,.nils,.nils,.nils,.nils,.nils,.pd (.raw (.int .i64 0)),.pd (.raw (.int .i64 0)),.pd (.raw (.int .i64 0)),.nils]),mq 5 78,.mk none none (.store 17 (tp 6) (tp 80))] [1,5,6,74,75,76] (.seq (.draw [fi 81 0 6,oo 82 (.load (some 13) (tp 81)),oo 83 (.call 42 [tp 82]),oo 84 (.un .not (tp 83)),mq 85 84,og 85 false 86 (.fieldA 15 (tp 6)),og 85 false 87 (.load none (tp 86)),og 85 false 88 (.bin .lss (tp 87) (ci 1)),oo 89 (.pick (tp 85) (cq true) (tp 88)),mq 90 89,og 90 false 91 (.fieldA 13 (tp 6)),og 90 false 92 (.load none (tp 91)),og 90 false 93 (.fieldA 15 (tp 6)),og 90 false 94 (.load none (tp 93)),og 90 false 95 (.bin .lss (tp 92) (tp 94)),oo 96 (.pick (tp 90) (cq true) (tp 95)),mq 97 96,og 97 false 98 (.fieldA 13 (tp 6)),og 97 false 99 (.load none (tp 98)),og 97 false 100 (.fieldA 0 (tp 1)),og 97 false 101 (.load none (tp 100)),og 97 false 102 (.bin .gtr (tp 99) (tp 101)),oo 103 (.pick (tp 97) (cq true) (tp 102)),mq 104 103,og 104 false 105 (.fieldA 14 (tp 6)),og 104 false 106 (.load none (tp 105)),og 104 false 107 (.bin .lss (tp 106) (ci 1)),oo 108 (.pick (tp 104) (cq true) (tp 107)),mq 109 108,og 109 false 110 (.fieldA 14 (tp 6)),og 109 false 111 (.load none (tp 110)),og 109 false 112 (.fieldA 13 (tp 6)),og 109 false 113 (.load none (tp 112)),og 109 false 114 (.fieldA 15 (tp 6)),og 109 false 115 (.load none (tp 114)),og 109 false 116 (.bin .sub (tp 113) (tp 115)),og 109 false 117 (.bin .add (tp 116) (ci 1)),og 109 false 118 (.bin .gtr (tp 111) (tp 117)),oo 119 (.pick (tp 109) (cq true) (tp 118)),mq 120 119,og 120 false 121 (.fieldA 16 (tp 6)),og 120 false 122 (.load none (tp 121)),og 120 false 123 (.len (tp 122) false),og 120 false 124 (.bin .gtr (tp 123) (ci 40)),oo 125 (.pick (tp 120) (cq true) (tp 124)),mq 126 125,og 126 false 127 (.mv (tp 5)),og 126 false 128 (.bin .gtr (tp 127) (ci 0)),og 126 false 129 (.mv (tp 128)),og 129 true 130 (.fieldA 2 (tp 1)),og 129 true 131 (.load none (tp 130)),og 129 true 132 (.mv (tp 5)),og 129 true 133 (.bin .sub (tp 132) (ci 1)),og 129 true 134 (.idxA 17 (tp 131) (tp 133)),og 129 true 135 (.fieldA 0 (tp 134)),og 129 true 136 (.fieldA 0 (tp 135)),og 129 true 137 (.load (some 3) (tp 136)),og 129 true 138 (.fieldA 0 (tp 6)),og 129 true 139 (.fieldA 0 (tp 138)),og 129 true 140 (.load (some 3) (tp 139)),og 129 true 141 (.call 39 [tp 137,tp 140]),og 129 true 142 (.bin .geq (tp 141) (ci 0)),og 126 false 143 (.pick (tp 129) (tp 142) (cq false)),oo 144 (.pick (tp 126) (cq true) (tp 143))] [0,1,3,7,15,31,63,127,255,511,1023,2047,1023,5119,16383,32767,65535,131071,262143,131071,655359,2097151,4194303,8388607,16777215,33554431,67108863,134217727,268435455,536870911,1073741823,536870911,2684354559,536870911,9126805503,32749125631,67108863999,137438953471,274877906943,549755813887,1099511627775,2199023255551,4398046511103,8796093022207,17592186044415,35184372088831,70368744177663,140737488355327,281474976710655,562949953421311,1125899906842623,562949953421311,2814749767106559,9007199254740991,18014398509481983,36028797018963967,72057594037927935,562949953421311,144678138029277183,432908514180988927,1152921504606846975,2305843009213693951,4611686018427387903,9223372036854775807] (.take 0 (.take 1 (.alts (.cons 2 true (.take 3 (.take 4 (.take 5 (.take 6 (.take 7 (.take 8 (.take 9 (.take 10 (.take 11 (.take 12 (.take 13 (.take 14 (.take 15 (.take 16 (.take 17 (.take 18 (.take 19 (.take 20 (.take 21 (.take 22 (.take 23 (.take 24 (.take 25 (.take 26 (.take 27 (.take 28 (.take 29 (.take 30 (.take 31 (.take 32 (.take 33 (.take 34 (.take 35 (.take 36 (.take 37 (.take 38 (.take 39 (.take 40 (.take 41 (.take 42 (.take 43 (.take 44 (.take 45 (.take 46 (.take 47 (.take 48 (.take 49 (.take 50 (.take 51 (.take 52 (.take 53 (.take 54 (.take 55 (.take 56 (.take 57 (.take 58 (.take 59 (.alts (.cons 60 true (.take 61 (.take 62 (.take 63 .done))) .nil))))))))))))))))))))))))))))))))))))))))))))))))))))))))))) .nil)))) (some [1,74,75,76,144])) (.cond (tp 144) (sr [oo 2 (.mv (ci 1))] [2] .ret) .skip)))) (.region [oo 145 (.bin .add (tp 76) (ci 1)),mq 76 145] (some [1,74,75,76])))))))) (sr [oo 2 (.mv (ci 0))] [2] .ret)))))
def an_zzimm : Ann := ann (List.range 16) ac_zzimm
theorem ok_zzimm : okd Tryz.prog an_zzimm ac_zzimm Tryz.f14 := ⟨by kernel_rfl, by kernel_rfl⟩

def ac_ziosv : AC := (sr [oo 2 (.box 25 (tp 0)),oo 4 (.mv (.const (.slice none 0 0))),oo 5 (.mv (ci 0))] [1,2] (.seq (.block 0 (sr [oo 7 (.load (some 4) (tp 2)),oo 8 (.call 14 [tp 7]),oo 9 (.bin .neq (tp 8) (ci 0)),mq 10 9,og 10 false 11 (.mv (tp 1)),og 10 false 12 (.bin .lss (tp 11) (ci 0)),oo 13 (.pick (tp 10) (cq true) (tp 12)),mq 14 13,og 14 false 15 (.mv (tp 1)),og 14 false 16 (.fieldA 0 (tp 2)),og 14 false 17 (.load none (tp 16)),og 14 false 18 (.bin .gtr (tp 15) (tp 17)),oo 19 (.pick (tp 14) (cq true) (tp 18)),mq 6 19] [1,2,6] (.cond (tp 6) (sr [oo 4 (.mv (.const (.slice none 0 0))),oo 5 (.mv (ci 1))] [4,5] .ret) (sr [mq 21 1,fi 22 1 2,lq 23 22,oo 24 (.bin .lss (tp 21) (tp 23)),mq 20 24] [1,2,20] (.cond (tp 20) (sr [oo 4 (.mv (.const (.slice none 0 0))),oo 5 (.mv (ci 6))] [4,5] .ret) .skip))))) (sr [fi 25 3 2,lq 26 25,mq 27 1,fi 28 1 2,lq 29 28,oo 30 (.bin .sub (tp 27) (tp 29)),oo 31 (.slcL 4 (tp 26) (some (tp 30)) none),oo 32 (.call 45 [tp 31]),mq 4 32,oo 5 (.mv (ci 0))] [4,5] .ret)))
def an_ziosv : Ann := ann (List.range 6) ac_ziosv
theorem ok_ziosv : okd Tryz.prog an_ziosv ac_ziosv Tryz.f15 := ⟨by kernel_rfl, by kernel_rfl⟩

def ac_zxx1t : AC := (sr [oo 0 (.mv (cq false))] [] (sr [oo 14 (.build [.pd (.raw (.int .i64 0)),.pd (.raw (.int .i64 0)),.nils,.nils] []),oo 15 (.call 46 [.const (.string ⟨#[97]⟩),cq false]),oo 16 (.call 29 [tp 14,tp 15]),mq 13 16,oo 17 (.extract (tp 13) 0),oo 18 (.extract (tp 13) 1),oo 1 (.alloc 25 [.pd (.raw (.int .i64 0)),.pd (.raw (.int .i64 0)),.nils,.nils]),.mk none none (.store 4 (tp 1) (tp 17)),mq 2 18] [1,2] (.seq (.draw [oo 20 (.load (some 4) (tp 1)),oo 21 (.call 46 [.const (.string ⟨#[97]⟩),cq true]),oo 22 (.call 47 [tp 20,tp 21,ci 5]),mq 19 22,oo 23 (.extract (tp 19) 0),oo 24 (.extract (tp 19) 1),oo 3 (.alloc 25 [.pd (.raw (.int .i64 0)),.pd (.raw (.int .i64 0)),.nils,.nils]),.mk none none (.store 4 (tp 3) (tp 23)),mq 4 24] [0,0,3,7,15,15,0,95,255] (.take 0 (.alts (.cons 1 false (.alts (.cons 2 true (.take 3 (.take 4 (.take 5 (.alts (.cons 6 false (.alts (.cons 7 false (.take 8 .done) .nil)) .nil))))) (.cons 6 false (.alts (.cons 2 false (.take 3 (.take 4 (.take 5 (.alts (.cons 7 false (.take 8 .done) .nil))))) .nil)) .nil))) (.cons 6 false (.alts (.cons 1 false (.alts (.cons 2 false (.take 3 (.take 4 (.take 5 (.alts (.cons 7 false (.take 8 .done) .nil))))) .nil)) .nil)) .nil)))) (some [1,2,4])) (.seq (.draw [oo 26 (.load (some 4) (tp 1)),oo 27 (.call 46 [.const (.string ⟨#[97]⟩),cq false]),oo 28 (.call 47 [tp 26,tp 27,ci 0]),mq 25 28,oo 29 (.extract (tp 25) 0),oo 30 (.extract (tp 25) 1),oo 5 (.alloc 25 [.pd (.raw (.int .i64 0)),.pd (.raw (.int .i64 0)),.nils,.nils]),.mk none none (.store 4 (tp 5) (tp 29)),mq 6 30] [0,0,3,7,15,15,0,95,255] (.take 0 (.alts (.cons 1 false (.alts (.cons 2 true (.take 3 (.take 4 (.take 5 (.alts (.cons 6 false (.alts (.cons 7 false (.take 8 .done) .nil)) .nil))))) (.cons 6 false (.alts (.cons 2 false (.take 3 (.take 4 (.take 5 (.alts (.cons 7 false (.take 8 .done) .nil))))) .nil)) .nil))) (.cons 6 false (.alts (.cons 1 false (.alts (.cons 2 false (.take 3 (.take 4 (.take 5 (.alts (.cons 7 false (.take 8 .done) .nil))))) .nil)) .nil)) .nil)))) (some [1,2,4,5,6])) (.seq (.draw [oo 32 (.load (some 4) (tp 1)),oo 33 (.call 46 [.const (.string ⟨#[97]⟩),cq false]),oo 34 (.field 0 (some 3) (tp 33)),oo 35 (.call 19 [tp 32,tp 34]),mq 31 35,oo 36 (.extract (tp 31) 0),oo 37 (.extract (tp 31) 1),oo 7 (.alloc 50 [.pd (.raw (.int .i64 0)),.pd (.raw (.string ⟨#[]⟩)),.pd (.raw (.string ⟨#[]⟩)),.pd (.raw (.bool false)),.nils,.nils,.pd (.raw (.string ⟨#[]⟩)),.nils,.nils,.nils,.nils,.nils,.nils,.pd (.raw (.int .i64 0)),.pd (.raw (.int .i64 0)),.pd (.raw (.int .i64 0)),.nils]),.mk none none (.store 17 (tp 7) (tp 36)),mq 8 37] [0,0,2,7,15,31,31,0,191,511] (.take 0 (.alts (.cons 1 false (.take 2 (.alts (.cons 3 true (.take 4 (.take 5 (.take 6 (.alts (.cons 7 false (.alts (.cons 8 false (.take 9 .done) .nil)) .nil))))) (.cons 7 false (.alts (.cons 3 false (.take 4 (.take 5 (.take 6 (.alts (.cons 8 false (.take 9 .done) .nil))))) .nil)) .nil)))) (.cons 7 false (.alts (.cons 1 false (.take 2 (.alts (.cons 3 false (.take 4 (.take 5 (.take 6 (.alts (.cons 8 false (.take 9 .done) .nil))))) .nil))) .nil)) .nil)))) (some [1,2,4,5,6,7,8])) (sr [oo 38 (.load (some 4) (tp 1)),oo 9 (.alloc 25 [.pd (.raw (.int .i64 0)),.pd (.raw (.int .i64 0)),.nils,.nils]),.mk none none (.store 4 (tp 9) (tp 38))] [1,2,4,5,6,7,8,9] (.seq (sr [oo 10 (.mv (ci 0))] [1,2,4,5,6,7,8,9,10] (.block 0 (.loop (.seq (sr [mq 39 10,oo 40 (.bin .lss (tp 39) (ci 16))] [1,2,4,5,6,7,8,9,10,40] (.cond (tp 40) .skip (.exit 0))) (.seq (.block 1 (.draw [oo 44 (.load (some 4) (tp 9)),mq 45 10,oo 46 (.bin .rem (tp 45) (ci 2)),oo 47 (.bin .eql (tp 46) (ci 0)),oo 48 (.call 46 [.const (.string ⟨#[97]⟩),tp 47]),oo 49 (.call 47 [tp 44,tp 48,ci 0]),mq 43 49,oo 50 (.extract (tp 43) 0),oo 51 (.extract (tp 43) 1),.mk none none (.store 4 (tp 9) (tp 50))] [0,0,2,6,14,31,63,127,127,255] (.take 0 (.take 1 (.take 2 (.take 3 (.alts (.cons 4 false (.alts (.cons 5 true (.take 6 (.take 7 (.take 8 (.alts (.cons 9 false .done .nil))))) .nil)) .nil)))))) (some [1,2,4,5,6,7,8,9,10]))) (.region [mq 41 10,oo 42 (.bin .add (tp 41) (ci 1)),mq 10 42] (some [1,2,4,5,6,7,8,9,10]))))))) (sr [oo 53 (.load (some 4) (tp 9)),oo 54 (.call 15 [tp 53,ci 0]),mq 52 54,oo 55 (.extract (tp 52) 0),oo 56 (.extract (tp 52) 1),mq 11 55,mq 12 56] [1,2,4,5,6,7,8,12] (sr [mq 57 2,oo 58 (.bin .eql (tp 57) (ci 0)),mq 59 58,og 59 true 60 (.fieldA 0 (tp 1)),og 59 true 61 (.load none (tp 60)),og 59 true 62 (.bin .eql (tp 61) (ci 1)),oo 63 (.pick (tp 59) (tp 62) (cq false)),mq 64 63,og 64 true 65 (.mv (tp 4)),og 64 true 66 (.bin .eql (tp 65) (ci 7)),oo 67 (.pick (tp 64) (tp 66) (cq false)),mq 68 67,og 68 true 69 (.mv (tp 6)),og 68 true 70 (.bin .eql (tp 69) (ci 0)),oo 71 (.pick (tp 68) (tp 70) (cq false)),mq 72 71,og 72 true 73 (.load (some 4) (tp 5)),og 72 true 74 (.load (some 4) (tp 1)),og 72 true 75 (.call 24 [tp 73,tp 74]),oo 76 (.pick (tp 72) (tp 75) (cq false)),mq 77 76,og 77 true 78 (.fieldA 14 (tp 7)),og 77 true 79 (.load none (tp 78)),og 77 true 80 (.bin .eql (tp 79) (ci 1)),oo 81 (.pick (tp 77) (tp 80) (cq false)),mq 82 81,og 82 true 83 (.mv (tp 8)),og 82 true 84 (.bin .eql (tp 83) (ci 0)),oo 85 (.pick (tp 82) (tp 84) (cq false)),mq 86 85,og 86 true 87 (.mv (tp 12)),og 86 true 88 (.bin .eql (tp 87) (ci 6)),oo 89 (.pick (tp 86) (tp 88) (cq false)),mq 90 89,oo 91 (.pick (tp 90) (cq true) (cq false)),mq 92 91,oo 93 (.pick (tp 92) (cq true) (cq false)),mq 94 93,oo 95 (.pick (tp 94) (cq true) (cq false)),mq 96 95,oo 97 (.pick (tp 96) (cq true) (cq false)),mq 0 97] [0] .ret)))))))))
def an_zxx1t : Ann := ann [0,1,2,3,4,5,6,7,9,8,10,11] ac_zxx1t
theorem ok_zxx1t : okd Tryz.prog an_zxx1t ac_zxx1t Tryz.f16 := ⟨by kernel_rfl, by kernel_rfl⟩

def ac_zllz5 : AC := (sr [oo 4 (.mv (cq false))] [0,1] (.seq (sr [mq 6 0,oo 7 (.len (tp 6) false),mq 8 1,oo 9 (.len (tp 8) false),oo 10 (.bin .neq (tp 7) (tp 9))] [0,1,10] (.cond (tp 10) (sr [oo 4 (.mv (cq false))] [4] .ret) .skip)) (.seq (sr [oo 5 (.mv (ci 0))] [0,1,5] (.block 0 (.loop (.seq (sr [mq 11 5,mq 12 0,oo 13 (.len (tp 12) false),oo 14 (.bin .lss (tp 11) (tp 13))] [0,1,5,14] (.cond (tp 14) .skip (.exit 0))) (.seq (.block 1 (.seq (.draw [mq 17 0,mq 18 5,oo 19 (.idxA 4 (tp 17) (tp 18)),oo 20 (.load (some 4) (tp 19)),mq 21 1,mq 22 5,oo 23 (.idxA 4 (tp 21) (tp 22)),oo 24 (.load (some 4) (tp 23)),oo 25 (.eqs true [.int,.int,.str,.str] (tp 20) (tp 24))] [0,0,3,7,0,0,48,112,255] (.take 0 (.take 1 (.take 2 (.take 3 (.take 4 (.take 5 (.take 6 (.take 7 (.take 8 .done))))))))) (some [0,1,5,25])) (.cond (tp 25) (sr [oo 4 (.mv (cq false))] [4] .ret) .skip))) (.region [mq 15 5,oo 16 (.bin .add (tp 15) (ci 1)),mq 5 16] (some [0,1,5]))))))) (sr [oo 4 (.mv (cq true))] [4] .ret))))
def an_zllz5 : Ann := ann [0,1,2,3,4,6,7,5,8] ac_zllz5
theorem ok_zllz5 : okd Tryz.prog an_zllz5 ac_zllz5 Tryz.f17 := ⟨by kernel_rfl, by kernel_rfl⟩

def ac_z4y8p : AC := (sr [oo 2 (.box 25 (tp 0)),oo 3 (.box 35 (tp 1)),oo 4 (.alloc 50 [.pd (.raw (.int .i64 0)),.pd (.raw (.string ⟨#[]⟩)),.pd (.raw (.string ⟨#[]⟩)),.pd (.raw (.bool false)),.nils,.nils,.pd (.raw (.string ⟨#[]⟩)),.nils,.nils,.nils,.nils,.nils,.nils,.pd (.raw (.int .i64 0)),.pd (.raw (.int .i64 0)),.pd (.raw (.int .i64 0)),.nils]),oo 5 (.mv (ci 0))] [2,3,4] (.seq (sr [oo 8 (.load (some 4) (tp 2)),oo 9 (.call 14 [tp 8]),oo 10 (.bin .neq (tp 9) (ci 0))] [2,3,4,10] (.cond (tp 10) (sr [oo 11 (.build [.pd (.raw (.int .i64 0)),.pd (.raw (.string ⟨#[]⟩)),.pd (.raw (.string ⟨#[]⟩)),.pd (.raw (.bool false)),.nils,.nils,.pd (.raw (.string ⟨#[]⟩)),.nils,.nils,.nils,.nils,.nils,.nils,.pd (.raw (.int .i64 0)),.pd (.raw (.int .i64 0)),.pd (.raw (.int .i64 0)),.nils] []),.mk none none (.store 17 (tp 4) (tp 11)),oo 5 (.mv (ci 1))] [4,5] .ret) .skip)) (sr [oo 13 (.load (some 4) (tp 2)),oo 14 (.load (some 3) (tp 3)),oo 15 (.call 49 [tp 13,tp 14]),mq 12 15,oo 16 (.extract (tp 12) 0),oo 17 (.extract (tp 12) 1),mq 6 16,mq 7 17] [2,4,6,7] (.seq (sr [mq 18 7,oo 19 (.un .not (tp 18))] [2,4,6,19] (.cond (tp 19) (sr [oo 20 (.build [.pd (.raw (.int .i64 0)),.pd (.raw (.string ⟨#[]⟩)),.pd (.raw (.string ⟨#[]⟩)),.pd (.raw (.bool false)),.nils,.nils,.pd (.raw (.string ⟨#[]⟩)),.nils,.nils,.nils,.nils,.nils,.nils,.pd (.raw (.int .i64 0)),.pd (.raw (.int .i64 0)),.pd (.raw (.int .i64 0)),.nils] []),.mk none none (.store 17 (tp 4) (tp 20)),oo 5 (.mv (ci 3))] [4,5] .ret) .skip)) (sr [fi 21 2 2,lq 22 21,mq 23 6,oo 24 (.idxA 17 (tp 22) (tp 23)),oo 25 (.load (some 17) (tp 24)),.mk none none (.store 17 (tp 4) (tp 25)),oo 5 (.mv (ci 0))] [4,5] .ret)))))
def an_z4y8p : Ann := ann (List.range 7) ac_z4y8p
theorem ok_z4y8p : okd Tryz.prog an_z4y8p ac_z4y8p Tryz.f19 := ⟨by kernel_rfl, by kernel_rfl⟩
theorem ret_z4y8p (st : St) : resD Tryz.prog st Tryz.f19.results.toList = resA st [.cell 4 (some 17), .tmp 5] := resD_of (by kernel_rfl)

def ac_zz1z4 : AC := (sr [oo 2 (.box 50 (tp 0)),oo 3 (.box 50 (tp 1)),oo 4 (.mv (cq false))] [2,3] (sr [fi 5 0 2,oo 6 (.load (some 13) (tp 5)),fi 7 0 3,oo 8 (.load (some 13) (tp 7)),oo 9 (.call 35 [tp 6,tp 8]),mq 10 9,og 10 true 11 (.fieldA 13 (tp 2)),og 10 true 12 (.load none (tp 11)),og 10 true 13 (.fieldA 13 (tp 3)),og 10 true 14 (.load none (tp 13)),og 10 true 15 (.bin .eql (tp 12) (tp 14)),oo 16 (.pick (tp 10) (tp 15) (cq false)),mq 17 16,og 17 true 18 (.fieldA 14 (tp 2)),og 17 true 19 (.load none (tp 18)),og 17 true 20 (.fieldA 14 (tp 3)),og 17 true 21 (.load none (tp 20)),og 17 true 22 (.bin .eql (tp 19) (tp 21)),oo 23 (.pick (tp 17) (tp 22) (cq false)),mq 24 23,og 24 true 25 (.fieldA 15 (tp 2)),og 24 true 26 (.load none (tp 25)),og 24 true 27 (.fieldA 15 (tp 3)),og 24 true 28 (.load none (tp 27)),og 24 true 29 (.bin .eql (tp 26) (tp 28)),oo 30 (.pick (tp 24) (tp 29) (cq false)),mq 31 30,og 31 true 32 (.fieldA 16 (tp 2)),og 31 true 33 (.load none (tp 32)),og 31 true 34 (.fieldA 16 (tp 3)),og 31 true 35 (.load none (tp 34)),og 31 true 36 (.call 38 [tp 33,tp 35]),oo 37 (.pick (tp 31) (tp 36) (cq false)),mq 4 37] [4] .ret))
def an_zz1z4 : Ann := ann (List.range 2) ac_zz1z4
theorem ok_zz1z4 : okd Tryz.prog an_zz1z4 ac_zz1z4 Tryz.f22 := ⟨by kernel_rfl, by kernel_rfl⟩

def ac_zvt1d : AC := (sr [oo 2 (.box 25 (tp 0)),oo 3 (.box 25 (tp 1)),oo 4 (.mv (cq false))] [2,3] (.seq (sr [fi 6 0 2,lq 7 6,fi 8 0 3,lq 9 8,oo 10 (.bin .neq (tp 7) (tp 9)),mq 11 10,og 11 false 12 (.fieldA 1 (tp 2)),og 11 false 13 (.load none (tp 12)),og 11 false 14 (.fieldA 1 (tp 3)),og 11 false 15 (.load none (tp 14)),og 11 false 16 (.bin .neq (tp 13) (tp 15)),oo 17 (.pick (tp 11) (cq true) (tp 16)),mq 18 17,og 18 false 19 (.fieldA 2 (tp 2)),og 18 false 20 (.load none (tp 19)),og 18 false 21 (.len (tp 20) false),og 18 false 22 (.fieldA 2 (tp 3)),og 18 false 23 (.load none (tp 22)),og 18 false 24 (.len (tp 23) false),og 18 false 25 (.bin .neq (tp 21) (tp 24)),oo 26 (.pick (tp 18) (cq true) (tp 25)),mq 27 26,og 27 false 28 (.fieldA 3 (tp 2)),og 27 false 29 (.load none (tp 28)),og 27 false 30 (.fieldA 3 (tp 3)),og 27 false 31 (.load none (tp 30)),og 27 false 32 (.call 17 [tp 29,tp 31]),og 27 false 33 (.un .not (tp 32)),oo 34 (.pick (tp 27) (cq true) (tp 33))] [2,3,34] (.cond (tp 34) (sr [oo 4 (.mv (cq false))] [4] .ret) .skip)) (.seq (sr [oo 5 (.mv (ci 0))] [2,3,5] (.block 0 (.loop (.seq (sr [mq 35 5,fi 36 2 2,lq 37 36,oo 38 (.len (tp 37) false),oo 39 (.bin .lss (tp 35) (tp 38))] [2,3,5,39] (.cond (tp 39) .skip (.exit 0))) (.seq (.block 1 (.seq (.draw [fi 42 2 2,lq 43 42,mq 44 5,oo 45 (.idxA 17 (tp 43) (tp 44)),oo 46 (.load (some 17) (tp 45)),fi 47 2 3,lq 48 47,mq 49 5,oo 50 (.idxA 17 (tp 48) (tp 49)),oo 51 (.load (some 17) (tp 50)),oo 52 (.call 22 [tp 46,tp 51]),oo 53 (.un .not (tp 52))] [0,1,0,7,15,0,32,0,224,480,1023,2047] (.take 0 (.take 1 (.take 2 (.take 3 (.take 4 (.take 5 (.take 6 (.take 7 (.take 8 (.take 9 (.alts (.cons 10 true (.take 11 .done) .nil)))))))))))) (some [2,3,5,53])) (.cond (tp 53) (sr [oo 4 (.mv (cq false))] [4] .ret) .skip))) (.region [mq 40 5,oo 41 (.bin .add (tp 40) (ci 1)),mq 5 41] (some [2,3,5]))))))) (sr [oo 4 (.mv (cq true))] [4] .ret))))
def an_zvt1d : Ann := ann [0,1,2,3,4,6,7,5,8] ac_zvt1d
theorem ok_zvt1d : okd Tryz.prog an_zvt1d ac_zvt1d Tryz.f24 := ⟨by kernel_rfl, by kernel_rfl⟩

def ac_z28fu : AC := (sr [oo 4 (.mv (cq false))] [0,1] (.seq (sr [mq 6 0,oo 7 (.len (tp 6) false),mq 8 1,oo 9 (.len (tp 8) false),oo 10 (.bin .neq (tp 7) (tp 9))] [0,1,10] (.cond (tp 10) (sr [oo 4 (.mv (cq false))] [4] .ret) .skip)) (.seq (sr [oo 5 (.mv (ci 0))] [0,1,5] (.block 0 (.loop (.seq (sr [mq 11 5,mq 12 0,oo 13 (.len (tp 12) false),oo 14 (.bin .lss (tp 11) (tp 13))] [0,1,5,14] (.cond (tp 14) .skip (.exit 0))) (.seq (.block 1 (.seq (.draw [mq 17 0,mq 18 5,oo 19 (.idxA 13 (tp 17) (tp 18)),oo 20 (.load (some 13) (tp 19)),mq 21 1,mq 22 5,oo 23 (.idxA 13 (tp 21) (tp 22)),oo 24 (.load (some 13) (tp 23)),oo 25 (.call 35 [tp 20,tp 24]),oo 26 (.un .not (tp 25))] [0,0,3,7,0,0,48,112,255,511] (.take 0 (.take 1 (.take 2 (.take 3 (.take 4 (.take 5 (.take 6 (.take 7 (.alts (.cons 8 true (.take 9 .done) .nil)))))))))) (some [0,1,5,26])) (.cond (tp 26) (sr [oo 4 (.mv (cq false))] [4] .ret) .skip))) (.region [mq 15 5,oo 16 (.bin .add (tp 15) (ci 1)),mq 5 16] (some [0,1,5]))))))) (sr [oo 4 (.mv (cq true))] [4] .ret))))
def an_z28fu : Ann := ann [0,1,2,3,4,6,7,5,8] ac_z28fu
theorem ok_z28fu : okd Tryz.prog an_z28fu ac_z28fu Tryz.f25 := ⟨by kernel_rfl, by kernel_rfl⟩

def ac_zqdmw : AC := (sr [oo 1 (.box 25 (tp 0)),oo 2 (.mv (.const (.slice none 0 0)))] [1] (sr [oo 3 (.mv (.const (.slice none 0 0)))] [1,3] (.seq (sr [fi 6 2 1,lq 7 6,oo 8 (.len (tp 7) false),oo 9 (.mv (ci 0))] [3,7,8,9] (.block 0 (.loop (sr [oo 10 (.bin .lss (tp 9) (tp 8))] [3,7,8,9,10] (.seq (.cond (tp 10) .skip (.exit 0)) (.seq (.block 1 (sr [oo 11 (.idxA 17 (tp 7) (tp 9)),oo 12 (.load (some 17) (tp 11)),oo 5 (.alloc 50 [.pd (.raw (.int .i64 0)),.pd (.raw (.string ⟨#[]⟩)),.pd (.raw (.string ⟨#[]⟩)),.pd (.raw (.bool false)),.nils,.nils,.pd (.raw (.string ⟨#[]⟩)),.nils,.nils,.nils,.nils,.nils,.nils,.pd (.raw (.int .i64 0)),.pd (.raw (.int .i64 0)),.pd (.raw (.int .i64 0)),.nils]),.mk none none (.store 17 (tp 5) (tp 12))] [3,5,7,8,9] (.region [mq 13 3,fi 14 0 5,oo 15 (.load (some 13) (tp 14)),oo 16 (.bslice 47 13 [tp 15]),oo 17 (.append 47 13 256 (tp 13) (tp 16)),mq 3 17] (some [3,7,8,9])))) (.region [oo 18 (.bin .add (tp 9) (ci 1)),mq 9 18] (some [3,7,8,9])))))))) (sr [mq 19 3,mq 2 19] [2] .ret))))
def an_zqdmw : Ann := ann (List.range 8) ac_zqdmw
theorem ok_zqdmw : okd Tryz.prog an_zqdmw ac_zqdmw Tryz.f26 := ⟨by kernel_rfl, by kernel_rfl⟩

def ac_zlx0b : AC := (sr [oo 2 (.box 25 (tp 0)),oo 3 (.box 47 (tp 1)),oo 4 (.alloc 25 [.pd (.raw (.int .i64 0)),.pd (.raw (.int .i64 0)),.nils,.nils]),oo 5 (.mv (ci 0))] [2,3,4] (.seq (sr [oo 8 (.load (some 4) (tp 2)),oo 9 (.call 14 [tp 8]),oo 10 (.bin .neq (tp 9) (ci 0)),mq 11 10,og 11 false 12 (.load (some 13) (tp 3)),og 11 false 13 (.call 42 [tp 12]),og 11 false 14 (.un .not (tp 13)),oo 15 (.pick (tp 11) (cq true) (tp 14))] [2,3,4,15] (.cond (tp 15) (sr [oo 16 (.load (some 4) (tp 2)),.mk none none (.store 4 (tp 4) (tp 16)),oo 5 (.mv (ci 1))] [4,5] .ret) .skip)) (sr [oo 18 (.load (some 4) (tp 2)),fi 19 0 3,oo 20 (.load (some 3) (tp 19)),oo 21 (.call 49 [tp 18,tp 20]),mq 17 21,oo 22 (.extract (tp 17) 0),oo 23 (.extract (tp 17) 1),mq 6 22,mq 7 23] [2,3,4,6,7] (.seq (.block 0 (sr [mq 25 7,mq 24 25] [2,3,4,6,24] (.cond (tp 24) (sr [oo 26 (.load (some 4) (tp 2)),.mk none none (.store 4 (tp 4) (tp 26)),oo 5 (.mv (ci 4))] [4,5] .ret) (sr [fi 28 2 2,lq 29 28,oo 30 (.len (tp 29) false),oo 31 (.bin .eql (tp 30) (ci 40)),mq 27 31] [2,3,4,6,27] (.cond (tp 27) (sr [oo 32 (.load (some 4) (tp 2)),.mk none none (.store 4 (tp 4) (tp 32)),oo 5 (.mv (ci 5))] [4,5] .ret) .skip))))) (sr [oo 33 (.load (some 4) (tp 2)),fi 34 0 3,oo 35 (.load (some 3) (tp 34)),mq 36 6,oo 37 (.mkfn 61 [tp 3]),oo 38 (.call 60 [tp 33,tp 35,tp 36,ci 0,tp 37]),oo 39 (.extract (tp 38) 0),oo 40 (.extract (tp 38) 1),.mk none none (.store 4 (tp 4) (tp 39)),mq 5 40] [4,5] .ret)))))
def an_zlx0b : Ann := ann (List.range 9) ac_zlx0b
theorem ok_zlx0b : okd Tryz.prog an_zlx0b ac_zlx0b Tryz.f29 := ⟨by kernel_rfl, by kernel_rfl⟩
theorem ret_zlx0b (st : St) : resD Tryz.prog st Tryz.f29.results.toList = resA st [.cell 4 (some 4), .tmp 5] := resD_of (by kernel_rfl)

def ac_zmk9z : AC := (sr [oo 3 (.box 25 (tp 0)),oo 4 (.box 35 (tp 1)),oo 6 (.alloc 25 [.pd (.raw (.int .i64 0)),.pd (.raw (.int .i64 0)),.nils,.nils]),oo 7 (.mv (ci 0))] [2,3,4,6] (sr [oo 11 (.load (some 4) (tp 3)),oo 12 (.load (some 3) (tp 4)),mq 13 2,oo 14 (.call 62 [tp 11,tp 12,tp 13]),mq 10 14,oo 15 (.extract (tp 10) 0),oo 16 (.extract (tp 10) 1),mq 8 15,mq 9 16] [3,4,6,8,9] (.seq (sr [mq 17 9,oo 18 (.bin .neq (tp 17) (ci 0))] [3,4,6,8,9,18] (.cond (tp 18) (sr [oo 19 (.load (some 4) (tp 3)),mq 20 9,.mk none none (.store 4 (tp 6) (tp 19)),mq 7 20] [6,7] .ret) .skip)) (sr [oo 21 (.load (some 4) (tp 3)),oo 22 (.load (some 3) (tp 4)),mq 23 8,oo 24 (.call 60 [tp 21,tp 22,tp 23,ci 1,.func 63]),oo 25 (.extract (tp 24) 0),oo 26 (.extract (tp 24) 1),.mk none none (.store 4 (tp 6) (tp 25)),mq 7 26] [6,7] .ret))))
def an_zmk9z : Ann := ann (List.range 5) ac_zmk9z
theorem ok_zmk9z : okd Tryz.prog an_zmk9z ac_zmk9z Tryz.f30 := ⟨by kernel_rfl, by kernel_rfl⟩
theorem ret_zmk9z (st : St) : resD Tryz.prog st Tryz.f30.results.toList = resA st [.cell 6 (some 4), .tmp 7] := resD_of (by kernel_rfl)

def ac_zqk2u : AC := (sr [oo 2 (.mv (.const (.slice none 0 0)))] [0] (sr [oo 3 (.mv (.const (.slice none 0 0)))] [0,3] (.seq (sr [oo 4 (.mv (ci 0))] [0,3,4] (.block 0 (.loop (.seq (sr [mq 5 4,mq 6 0,oo 7 (.len (tp 6) false),oo 8 (.bin .lss (tp 5) (tp 7)),mq 9 8,og 9 true 10 (.mv (tp 4)),og 9 true 11 (.bin .lss (tp 10) (ci 41)),oo 12 (.pick (tp 9) (tp 11) (cq false))] [0,3,4,12] (.cond (tp 12) .skip (.exit 0))) (.seq (.block 1 (.region [mq 15 3,mq 16 0,mq 17 4,oo 18 (.idxA 6 (tp 16) (tp 17)),oo 19 (.load (some 6) (tp 18)),oo 20 (.bslice 117 6 [tp 19]),oo 21 (.append 117 6 72 (tp 15) (tp 20)),mq 3 21] (some [0,3,4]))) (.region [mq 13 4,oo 14 (.bin .add (tp 13) (ci 1)),mq 4 14] (some [0,3,4]))))))) (sr [mq 22 3,mq 2 22] [2] .ret))))
def an_zqk2u : Ann := ann (List.range 7) ac_zqk2u
theorem ok_zqk2u : okd Tryz.prog an_zqk2u ac_zqk2u Tryz.f36 := ⟨by kernel_rfl, by kernel_rfl⟩

def ac_zjcqq : AC := (sr [oo 4 (.mv (cq false))] [0,1] (.seq (sr [mq 6 0,oo 7 (.len (tp 6) false),mq 8 1,oo 9 (.len (tp 8) false),oo 10 (.bin .neq (tp 7) (tp 9))] [0,1,10] (.cond (tp 10) (sr [oo 4 (.mv (cq false))] [4] .ret) .skip)) (.seq (sr [oo 5 (.mv (ci 0))] [0,1,5] (.block 0 (.loop (.seq (sr [mq 11 5,mq 12 0,oo 13 (.len (tp 12) false),oo 14 (.bin .lss (tp 11) (tp 13))] [0,1,5,14] (.cond (tp 14) .skip (.exit 0))) (.seq (.block 1 (.seq (.draw [mq 17 0,mq 18 5,oo 19 (.idxA 6 (tp 17) (tp 18)),oo 20 (.load (some 6) (tp 19)),mq 21 1,mq 22 5,oo 23 (.idxA 6 (tp 21) (tp 22)),oo 24 (.load (some 6) (tp 23)),oo 25 (.eqs true [.str,.str,.str,.bool,.int,.int] (tp 20) (tp 24))] [0,0,3,7,0,0,48,112,255] (.take 0 (.take 1 (.take 2 (.take 3 (.take 4 (.take 5 (.take 6 (.take 7 (.take 8 .done))))))))) (some [0,1,5,25])) (.cond (tp 25) (sr [oo 4 (.mv (cq false))] [4] .ret) .skip))) (.region [mq 15 5,oo 16 (.bin .add (tp 15) (ci 1)),mq 5 16] (some [0,1,5]))))))) (sr [oo 4 (.mv (cq true))] [4] .ret))))
def an_zjcqq : Ann := ann [0,1,2,3,4,6,7,5,8] ac_zjcqq
theorem ok_zjcqq : okd Tryz.prog an_zjcqq ac_zjcqq Tryz.f38 := ⟨by kernel_rfl, by kernel_rfl⟩

def ac_zalwn : AC := (sr [oo 4 (.alloc 47 [.pd (.raw (.int .i64 0)),.pd (.raw (.string ⟨#[]⟩)),.pd (.raw (.string ⟨#[]⟩)),.pd (.raw (.bool false)),.nils,.nils,.pd (.raw (.string ⟨#[]⟩)),.nils,.nils,.nils,.nils,.nils,.nils])] [0,1,4] (sr [mq 5 0,oo 6 (.build [.pd (.raw (.int .i64 0)),.pd (.raw (.string ⟨#[]⟩)),.pd (.raw (.string ⟨#[]⟩))] [(0,1,ci 1),(2,1,tp 5)]),mq 7 1,oo 8 (.build [.pd (.raw (.int .i64 0)),.pd (.raw (.string ⟨#[]⟩)),.pd (.raw (.string ⟨#[]⟩)),.pd (.raw (.bool false)),.nils,.nils,.pd (.raw (.string ⟨#[]⟩)),.nils,.nils,.nils,.nils,.nils,.nils] [(0,3,tp 6),(3,1,tp 7)]),.mk none none (.store 13 (tp 4) (tp 8))] [4] .ret))
def an_zalwn : Ann := ann (List.range 2) ac_zalwn
theorem ok_zalwn : okd Tryz.prog an_zalwn ac_zalwn Tryz.f46 := ⟨by kernel_rfl, by kernel_rfl⟩
theorem ret_zalwn (st : St) : resD Tryz.prog st Tryz.f46.results.toList = resA st [.cell 4 (some 13)] := resD_of (by kernel_rfl)

def ac_zcxqw : AC := (sr [oo 3 (.box 25 (tp 0)),oo 4 (.box 47 (tp 1)),oo 6 (.alloc 25 [.pd (.raw (.int .i64 0)),.pd (.raw (.int .i64 0)),.nils,.nils]),oo 7 (.mv (ci 0))] [2,3,4,6] (.seq (sr [oo 10 (.load (some 13) (tp 4)),oo 11 (.call 42 [tp 10]),oo 12 (.un .not (tp 11))] [2,3,4,6,12] (.cond (tp 12) (sr [oo 13 (.load (some 4) (tp 3)),.mk none none (.store 4 (tp 6) (tp 13)),oo 7 (.mv (ci 1))] [6,7] .ret) .skip)) (sr [oo 15 (.load (some 4) (tp 3)),fi 16 0 4,oo 17 (.load (some 3) (tp 16)),mq 18 2,oo 19 (.call 62 [tp 15,tp 17,tp 18]),mq 14 19,oo 20 (.extract (tp 14) 0),oo 21 (.extract (tp 14) 1),mq 8 20,mq 9 21] [3,4,6,8,9] (.seq (.seq (.draw [mq 22 9,oo 23 (.bin .neq (tp 22) (ci 0)),mq 24 23,og 24 false 25 (.fieldA 2 (tp 3)),og 24 false 26 (.load none (tp 25)),og 24 false 27 (.mv (tp 8)),og 24 false 28 (.idxA 17 (tp 26) (tp 27)),og 24 false 29 (.fieldA 0 (tp 28)),og 24 false 30 (.load (some 13) (tp 29)),og 24 false 31 (.load (some 13) (tp 4)),og 24 false 32 (.call 53 [tp 30,tp 31]),oo 33 (.pick (tp 24) (cq true) (tp 32))] [0,1,3,7,15,7,63,127,255,7,1023,2047] (.take 0 (.take 1 (.take 2 (.take 3 (.take 4 (.take 5 (.take 6 (.take 7 (.take 8 (.take 9 (.alts (.cons 10 true (.take 11 .done) .nil)))))))))))) (some [3,4,6,8,9,33])) (.cond (tp 33) (sr [oo 34 (.load (some 4) (tp 3)),mq 35 9,.mk none none (.store 4 (tp 6) (tp 34)),mq 7 35] [6,7] .ret) .skip)) (sr [oo 36 (.load (some 4) (tp 3)),mq 37 8,oo 38 (.mkfn 96 [tp 4]),oo 39 (.call 76 [tp 36,tp 37,tp 38]),oo 40 (.extract (tp 39) 0),oo 41 (.extract (tp 39) 1),.mk none none (.store 4 (tp 6) (tp 40)),mq 7 41] [6,7] .ret)))))
def an_zcxqw : Ann := ann (List.range 7) ac_zcxqw
theorem ok_zcxqw : okd Tryz.prog an_zcxqw ac_zcxqw Tryz.f47 := ⟨by kernel_rfl, by kernel_rfl⟩
theorem ret_zcxqw (st : St) : resD Tryz.prog st Tryz.f47.results.toList = resA st [.cell 6 (some 4), .tmp 7] := resD_of (by kernel_rfl)

def ac_zfykq : AC := (sr [oo 2 (.box 25 (tp 0)),oo 3 (.box 35 (tp 1)),oo 4 (.mv (ci 0)),oo 5 (.mv (cq false))] [2,3] (sr [fi 6 2 2,lq 7 6,oo 8 (.load (some 3) (tp 3)),oo 9 (.call 97 [tp 7,tp 8,.func 98]),oo 10 (.extract (tp 9) 0),oo 11 (.extract (tp 9) 1),mq 4 10,mq 5 11] [4,5] .ret))
def an_zfykq : Ann := ann (List.range 2) ac_zfykq
theorem ok_zfykq : okd Tryz.prog an_zfykq ac_zfykq Tryz.f49 := ⟨by kernel_rfl, by kernel_rfl⟩

def ac_z3ut2 : AC := (sr [oo 5 (.box 25 (tp 0)),oo 6 (.box 35 (tp 1)),oo 10 (.alloc 25 [.pd (.raw (.int .i64 0)),.pd (.raw (.int .i64 0)),.nils,.nils]),oo 11 (.mv (ci 0))] [2,3,4,5,6,10] (.seq (sr [fi 13 0 5,lq 14 13,oo 15 (.bin .eql (tp 14) (ci 1099511627775))] [2,3,4,5,6,10,15] (.cond (tp 15) (sr [oo 16 (.load (some 4) (tp 5)),.mk none none (.store 4 (tp 10) (tp 16)),oo 11 (.mv (ci 5))] [10,11] .ret) .skip)) (sr [oo 17 (.load (some 4) (tp 5)),oo 12 (.alloc 25 [.pd (.raw (.int .i64 0)),.pd (.raw (.int .i64 0)),.nils,.nils]),.mk none none (.store 4 (tp 12) (tp 17))] [2,3,4,5,6,10,12] (sr [fi 18 0 12,lq 19 18,oo 20 (.bin .add (tp 19) (ci 1)),fi 21 0 12,.mk none none (.store 1 (tp 21) (tp 20))] [2,3,4,5,6,10,12] (.seq (.draw [fi 22 2 5,lq 23 22,mq 24 2,mq 25 2,oo 26 (.slcF 17 (tp 23) (tp 24) (tp 25)),mq 27 4,fi 28 0 12,lq 29 28,oo 30 (.callv (tp 27) [tp 29]),oo 31 (.append 50 17 304 (tp 26) (tp 30)),fi 32 2 12,.mk none none (.store 1 (tp 32) (tp 31))] [0,1,0,0,15,0,0,64,224,511,1023,2047] (.take 0 (.take 1 (.take 2 (.take 3 (.take 4 (.take 5 (.take 6 (.take 7 (.alts (.consF 8 (.alts (.cons 9 true (.take 10 (.alts (.cons 11 true .done .nil))) .nil)) .nil)))))))))) (some [2,3,5,6,10,12])) (.seq (.draw [fi 33 2 12,lq 34 33,fi 35 2 12,lq 36 35,oo 37 (.len (tp 36) false),fi 38 2 12,lq 39 38,oo 40 (.len (tp 39) false),oo 41 (.slcF 17 (tp 34) (tp 37) (tp 40)),fi 42 2 5,lq 43 42,mq 44 2,mq 45 3,oo 46 (.bin .add (tp 44) (tp 45)),oo 47 (.slcL 17 (tp 43) (some (tp 46)) none),oo 48 (.append 50 17 304 (tp 41) (tp 47)),fi 49 2 12,.mk none none (.store 1 (tp 49) (tp 48))] [0,1,0,4,12,0,32,96,255,0,512,0,0,6144,15872,32767,65535,131071] (.take 0 (.take 1 (.take 2 (.take 3 (.take 4 (.take 5 (.take 6 (.take 7 (.take 8 (.take 9 (.take 10 (.take 11 (.take 12 (.take 13 (.take 14 (.alts (.cons 15 true (.take 16 (.alts (.cons 17 true .done .nil))) .nil))))))))))))))))) (some [5,6,10,12])) (.seq (.draw [fi 50 3 5,lq 51 50,oo 52 (.call 45 [tp 51]),fi 53 0 12,lq 54 53,oo 55 (.load (some 3) (tp 6)),oo 56 (.build [.pd (.raw (.int .i64 0)),.pd (.raw (.int .i64 0)),.pd (.raw (.string ⟨#[]⟩)),.pd (.raw (.string ⟨#[]⟩))] [(0,1,tp 54),(1,3,tp 55)]),oo 57 (.bslice 78 4 [tp 56]),oo 58 (.append 78 4 48 (tp 52) (tp 57)),fi 59 3 12,.mk none none (.store 1 (tp 59) (tp 58))] [0,1,3,0,8,0,56,120,255,511,1023] (.take 0 (.take 1 (.take 3 (.take 4 (.take 5 (.take 6 (.alts (.consF 2 (.alts (.cons 7 false (.alts (.cons 8 true (.take 9 (.alts (.cons 10 true .done .nil))) .nil)) .nil)) (.cons 7 false (.alts (.consF 2 (.alts (.cons 8 true (.take 9 (.alts (.cons 10 true .done .nil))) .nil)) .nil)) .nil))))))))) (some [10,12])) (.seq (sr [fi 60 3 12,lq 61 60,oo 62 (.len (tp 61) false),oo 63 (.bin .gtr (tp 62) (ci 16))] [10,12,63] (.cond (tp 63) (.draw [fi 64 3 12,lq 65 64,oo 66 (.idxA 4 (tp 65) (ci 0)),fi 67 0 66,lq 68 67,fi 69 3 12,lq 70 69,oo 71 (.slcL 4 (tp 70) (some (ci 1)) none),fi 72 1 12,.mk none none (.store 1 (tp 72) (tp 68)),fi 73 3 12,.mk none none (.store 1 (tp 73) (tp 71))] [0,1,3,7,15,0,32,96,127,383,1023,2047] (.take 0 (.take 1 (.take 2 (.take 3 (.take 4 (.take 5 (.take 6 (.take 7 (.take 8 (.alts (.cons 9 false (.take 10 (.alts (.cons 11 true .done .nil))) .nil))))))))))) (some [10,12])) .skip)) (sr [oo 74 (.load (some 4) (tp 12)),.mk none none (.store 4 (tp 10) (tp 74)),oo 11 (.mv (ci 0))] [10,11] .ret)))))))))
def an_z3ut2 : Ann := ann (List.range 11) ac_z3ut2
theorem ok_z3ut2 : okd Tryz.prog an_z3ut2 ac_z3ut2 Tryz.f60 := ⟨by kernel_rfl, by kernel_rfl⟩
theorem ret_z3ut2 (st : St) : resD Tryz.prog st Tryz.f60.results.toList = resA st [.cell 10 (some 4), .tmp 11] := resD_of (by kernel_rfl)

def ac_zw36y : AC := (sr [oo 3 (.mv (.const (.slice none 0 0)))] [0,1] (sr [oo 4 (.load (some 13) (tp 1)),mq 5 0,mq 6 0,oo 7 (.build [.pd (.raw (.int .i64 0)),.pd (.raw (.string ⟨#[]⟩)),.pd (.raw (.string ⟨#[]⟩)),.pd (.raw (.bool false)),.nils,.nils,.pd (.raw (.string ⟨#[]⟩)),.nils,.nils,.nils,.nils,.nils,.nils,.pd (.raw (.int .i64 0)),.pd (.raw (.int .i64 0)),.pd (.raw (.int .i64 0)),.nils] [(0,13,tp 4),(13,1,tp 5),(14,1,ci 1),(15,1,tp 6)]),oo 8 (.bslice 50 17 [tp 7]),mq 3 8] [3] .ret))
def an_zw36y : Ann := ann (List.range 2) ac_zw36y
theorem ok_zw36y : okd Tryz.prog an_zw36y ac_zw36y Tryz.f61 := ⟨by kernel_rfl, by kernel_rfl⟩

def ac_zncbw : AC := (sr [oo 3 (.box 25 (tp 0)),oo 4 (.box 35 (tp 1)),oo 6 (.mv (ci 0)),oo 7 (.mv (ci 0))] [2,3,4] (.seq (sr [oo 10 (.load (some 4) (tp 3)),oo 11 (.call 14 [tp 10]),oo 12 (.bin .neq (tp 11) (ci 0))] [2,3,4,12] (.cond (tp 12) (sr [oo 6 (.mv (ci 0)),oo 7 (.mv (ci 1))] [6,7] .ret) .skip)) (sr [oo 14 (.load (some 4) (tp 3)),oo 15 (.load (some 3) (tp 4)),oo 16 (.call 49 [tp 14,tp 15]),mq 13 16,oo 17 (.extract (tp 13) 0),oo 18 (.extract (tp 13) 1),mq 8 17,mq 9 18] [2,3,8,9] (.seq (.block 0 (sr [mq 20 9,oo 21 (.un .not (tp 20)),mq 19 21] [2,3,8,19] (.cond (tp 19) (sr [oo 6 (.mv (ci 0)),oo 7 (.mv (ci 3))] [6,7] .ret) (sr [mq 23 2,oo 24 (.bin .neq (tp 23) (ci 0)),mq 25 24,og 25 true 26 (.mv (tp 2)),og 25 true 27 (.fieldA 2 (tp 3)),og 25 true 28 (.load none (tp 27)),og 25 true 29 (.mv (tp 8)),og 25 true 30 (.idxA 17 (tp 28) (tp 29)),og 25 true 31 (.fieldA 13 (tp 30)),og 25 true 32 (.load none (tp 31)),og 25 true 33 (.bin .neq (tp 26) (tp 32)),oo 34 (.pick (tp 25) (tp 33) (cq false)),mq 22 34] [8,22] (.cond (tp 22) (sr [oo 6 (.mv (ci 0)),oo 7 (.mv (ci 7))] [6,7] .ret) .skip))))) (sr [mq 35 8,mq 6 35,oo 7 (.mv (ci 0))] [6,7] .ret)))))
def an_zncbw : Ann := ann (List.range 9) ac_zncbw
theorem ok_zncbw : okd Tryz.prog an_zncbw ac_zncbw Tryz.f62 := ⟨by kernel_rfl, by kernel_rfl⟩

def ac_z1kzf : AC := (sr [oo 2 (.mv (.const (.slice none 0 0)))] [] (sr [oo 2 (.mv (.const (.slice none 0 0)))] [2] .ret))
def an_z1kzf : Ann := ann (List.range 2) ac_z1kzf
theorem ok_z1kzf : okd Tryz.prog an_z1kzf ac_z1kzf Tryz.f63 := ⟨by kernel_rfl, by kernel_rfl⟩

def ac_zidid : AC := (sr [oo 3 (.box 25 (tp 0)),oo 6 (.alloc 25 [.pd (.raw (.int .i64 0)),.pd (.raw (.int .i64 0)),.nils,.nils]),oo 7 (.mv (ci 0))] [1,2,3,6] (sr [fi 9 2 3,lq 10 9,mq 11 1,oo 12 (.idxA 17 (tp 10) (tp 11)),oo 13 (.load (some 17) (tp 12)),oo 8 (.alloc 50 [.pd (.raw (.int .i64 0)),.pd (.raw (.string ⟨#[]⟩)),.pd (.raw (.string ⟨#[]⟩)),.pd (.raw (.bool false)),.nils,.nils,.pd (.raw (.string ⟨#[]⟩)),.nils,.nils,.nils,.nils,.nils,.nils,.pd (.raw (.int .i64 0)),.pd (.raw (.int .i64 0)),.pd (.raw (.int .i64 0)),.nils]),.mk none none (.store 17 (tp 8) (tp 13))] [1,2,3,6,8] (sr [mq 14 2,oo 15 (.callv (tp 14) [tp 8])] [1,3,6,8] (sr [oo 16 (.load (some 4) (tp 3)),fi 17 0 8,fi 18 0 17,oo 19 (.load (some 3) (tp 18)),mq 20 1,oo 21 (.mkfn 118 [tp 8]),oo 22 (.call 60 [tp 16,tp 19,tp 20,ci 1,tp 21]),oo 23 (.extract (tp 22) 0),oo 24 (.extract (tp 22) 1),.mk none none (.store 4 (tp 6) (tp 23)),mq 7 24] [6,7] .ret))))
def an_zidid : Ann := ann (List.range 4) ac_zidid
theorem ok_zidid : okd Tryz.prog an_zidid ac_zidid Tryz.f76 := ⟨by kernel_rfl, by kernel_rfl⟩
theorem ret_zidid (st : St) : resD Tryz.prog st Tryz.f76.results.toList = resA st [.cell 6 (some 4), .tmp 7] := resD_of (by kernel_rfl)

def ac_zdlvu : AC := (sr [mq 3 0,oo 4 (.load (some 13) (tp 1)),oo 5 (.ncheck (tp 3)),fi 6 0 5,.mk none none (.store 13 (tp 6) (tp 4))] [0] (.region [mq 7 0,oo 8 (.ncheck (tp 7)),fi 9 14 8,lq 10 9,oo 11 (.bin .add (tp 10) (ci 1)),oo 12 (.ncheck (tp 7)),fi 13 14 12,.mk none none (.store 1 (tp 13) (tp 11))] (some [])))
def an_zdlvu : Ann := ann (List.range 2) ac_zdlvu
theorem ok_zdlvu : okd Tryz.prog an_zdlvu ac_zdlvu Tryz.f96 := ⟨by kernel_rfl, by kernel_rfl⟩

def ac_zukgz : AC := (sr [oo 2 (.box 50 (tp 0)),oo 3 (.box 35 (tp 1)),oo 4 (.mv (ci 0))] [2,3] (sr [fi 5 0 2,fi 6 0 5,oo 7 (.load (some 3) (tp 6)),oo 8 (.load (some 3) (tp 3)),oo 9 (.call 39 [tp 7,tp 8]),mq 4 9] [4] .ret))
def an_zukgz : Ann := ann (List.range 2) ac_zukgz
theorem ok_zukgz : okd Tryz.prog an_zukgz ac_zukgz Tryz.f98 := ⟨by kernel_rfl, by kernel_rfl⟩

def ac_zuqxh : AC := (sr [oo 3 (.mv (.const (.slice none 0 0)))] [0,1] (sr [mq 4 0,fi 5 13 1,.mk none none (.store 1 (tp 5) (tp 4))] [1] (sr [oo 6 (.load (some 17) (tp 1)),oo 7 (.bslice 50 17 [tp 6]),mq 3 7] [3] .ret)))
def an_zuqxh : Ann := ann (List.range 3) ac_zuqxh
theorem ok_zuqxh : okd Tryz.prog an_zuqxh ac_zuqxh Tryz.f118 := ⟨by kernel_rfl, by kernel_rfl⟩

end Go.Proofs.YtjgpdjakehoofaaGreatDoor


namespace Go.Proofs.YtjgpdjakehoofaaGreatDoor
open Go Go.RowKit
set_option linter.unusedSimpArgs false
set_option linter.unusedVariables false
set_option maxRecDepth 100000

inductive Sh where
 | int (k : IntKind)
 | str
 | bool
 | slice (s : List Sh)

mutual
inductive HasSh : Sh → PD → Prop
 | int (k : IntKind) (n : Int) (h : (Lit.int k n).wf = true) : HasSh (.int k) (.raw (.int k n))
 | str (s : ByteArray) (h : s.size ≤ maxLen) : HasSh .str (.raw (.string s))
 | bool (b : Bool) : HasSh .bool (.raw (.bool b))
 | slice (s : List Sh) (els : List (List PD)) (hm : els.length ≤ maxLen) (h : ∀ r ∈ els, HasShs s r) : HasSh (.slice s) (.slice els)
inductive HasShs : List Sh → List PD → Prop
 | nil : HasShs [] []
 | cons (s : Sh) (d : PD) (ss : List Sh) (ds : List PD) (h : HasSh s d) (hs : HasShs ss ds) : HasShs (s :: ss) (d :: ds)
end

theorem HasShs.append : ∀ {s1 s2 : List Sh} {d1 d2 : List PD}, HasShs s1 d1 → HasShs s2 d2 → HasShs (s1 ++ s2) (d1 ++ d2)
 | [], _, _, _, h, k => by cases h; exact k
 | _ :: _, _, _, _, h, k => by
   cases h with
   | cons s d ss ds h hs => exact .cons _ _ _ _ h (hs.append k)

mutual
def shp (P : Program) : Nat → TypeId → Option (List Sh)
 | 0, _ => none
 | n + 1, t => match P.underlying t with
   | some (.int k) => some [.int k]
   | some .string => some [.str]
   | some .bool => some [.bool]
   | some (.slice e) => match shp P n e with
     | some s => if P.cellsOf e = s.length ∧ 0 < s.length then some [.slice s] else none
     | none => none
   | some (.struct fs) => match shpF P n fs.toList 0 with
     | some s => if s.length = P.cellsOf t then some s else none
     | none => none
   | _ => none
def shpF (P : Program) : Nat → List Field → Nat → Option (List Sh)
 | _, [], _ => some []
 | 0, _ :: _, _ => none
 | n + 1, f :: fs, off => if f.offset ≠ off then none else match shp P n f.type with
   | some s => if P.cellsOf f.type = s.length then (shpF P n fs (off + s.length)).map (s ++ ·) else none
   | none => none
end

theorem list_of {α : Type} [Inhabited α] {Q : Nat → α → Prop} : ∀ (n : Nat), (∀ j, j < n → ∃ d, Q j d) → ∃ l : List α, l.length = n ∧ ∀ j, j < n → Q j (l.getD j default)
 | 0, _ => ⟨[], rfl, fun j hj => by omega⟩
 | n + 1, h => by
   obtain ⟨l, h1, h2⟩ := list_of n (fun j hj => h j (by omega))
   obtain ⟨d, hd⟩ := h n (by omega)
   refine ⟨l ++ [d], by simp [h1], fun j hj => ?_⟩
   by_cases hjn : j < n
   ·have := h2 j hjn
    rw [List.getD_eq_getElem?_getD, List.getElem?_append_left (by omega), ← List.getD_eq_getElem?_getD]
    exact this
   ·have e : j = n := by omega
    subst e
    rw [List.getD_eq_getElem?_getD, List.getElem?_append_right (by omega), h1, Nat.sub_self]
    exact hd

section
variable {H : Type} {enc : TypeId × Value → H} {P : Program} {w : World} {spare : Nat → Bool} {held : Bool} {Fz : Nat → Nat → Prop}

theorem readF (hF : ∀ b o v, w.cell? ⟨b, o, none⟩ = some v → Fz b o) (n0 : Nat) (ih : ∀ n, n ≤ n0 → ∀ (t : TypeId) (s : List Sh) (fuel : Nat) (cs : List Value) (x : DataW H × List MemPlace), shp P n t = some s → DataW.trod enc P w 0 spare held fuel t cs = some x → ∃ ds, PReps Fz w cs ds ∧ HasShs s ds) (cs : List Value) :
 ∀ (n : Nat), n ≤ n0 + 1 → ∀ (fs : List Field) (off : Nat) (s : List Sh), shpF P n fs off = some s →
   (∀ f ∈ fs, ∃ fuel x, DataW.trod enc P w 0 spare held fuel f.type ((cs.drop f.offset).take (P.cellsOf f.type)) = some x) → off + s.length ≤ cs.length →
   ∃ ds, PReps Fz w ((cs.drop off).take s.length) ds ∧ HasShs s ds
 | _, _, [], off, s, h, _, _ => by
   have : s = [] := by
    unfold shpF at h
    simpa using h.symm
   subst this
   exact ⟨[], by simpa using PReps.nil, .nil⟩
 | 0, _, f :: fs, off, s, h, _, _ => by unfold shpF at h; cases h
 | n + 1, hn, f :: fs, off, s, h, hf, hl => by
   unfold shpF at h
   split at h
   ·cases h
   ·rename_i ho
    simp only [ne_eq, Decidable.not_not] at ho
    split at h
    ·rename_i s1 h1
     split at h
     ·rename_i hc
      obtain ⟨s2, h2, rfl⟩ := Option.map_eq_some_iff.1 h
      obtain ⟨fuel, x, hx⟩ := hf f List.mem_cons_self
      rw [ho, hc] at hx
      obtain ⟨d1, p1, q1⟩ := ih n (by omega) f.type s1 fuel _ x h1 hx
      rw [List.length_append] at hl
      obtain ⟨d2, p2, q2⟩ := readF hF n0 ih cs n (by omega) fs (off + s1.length) s2 h2 (fun g hg => hf g (List.mem_cons_of_mem _ hg)) (by omega)
      refine ⟨d1 ++ d2, ?_, q1.append q2⟩
      have e : (cs.drop off).take (s1 ++ s2).length = (cs.drop off).take s1.length ++ (cs.drop (off + s1.length)).take s2.length := by
       rw [List.length_append, List.take_add, List.drop_drop]
      rw [e]
      exact p1.append p2
     ·cases h
    ·cases h

theorem read (hF : ∀ b o v, w.cell? ⟨b, o, none⟩ = some v → Fz b o) : ∀ (n0 n : Nat), n ≤ n0 → ∀ (t : TypeId) (s : List Sh) (fuel : Nat) (cs : List Value) (x : DataW H × List MemPlace), shp P n t = some s → DataW.trod enc P w 0 spare held fuel t cs = some x → ∃ ds, PReps Fz w cs ds ∧ HasShs s ds
 | 0, n, hn, t, s, fuel, cs, x, h, hx => by
   have : n = 0 := by omega
   subst this
   unfold shp at h
   cases h
 | n0 + 1, 0, hn, t, s, fuel, cs, x, h, hx => by unfold shp at h; cases h
 | n0 + 1, n + 1, hn, t, s, fuel, cs, x, h, hx => by
   have ih := read hF n0
   unfold shp at h
   split at h
   ·rename_i k hu
    cases h
    obtain ⟨m, rfl, _, hw⟩ := DataW.trod_int hu hx
    exact ⟨[.raw (.int k m)], .cons _ _ _ _ (.raw _ rfl) .nil, .cons _ _ _ _ (.int k m hw) .nil⟩
   ·rename_i hu
    cases h
    obtain ⟨m, rfl, _, hw⟩ := DataW.trod_string hu hx
    exact ⟨[.raw (.string m)], .cons _ _ _ _ (.raw _ rfl) .nil, .cons _ _ _ _ (.str m hw) .nil⟩
   ·rename_i hu
    cases h
    obtain ⟨m, rfl, _⟩ := DataW.trod_bool hu hx
    exact ⟨[.raw (.bool m)], .cons _ _ _ _ (.raw _ rfl) .nil, .cons _ _ _ _ (.bool m) .nil⟩
   ·rename_i e hu
    split at h
    ·rename_i s1 h1
     split at h
     ·rename_i hc
      cases h
      rcases DataW.trod_slice hu hx with ⟨rfl, _⟩ | ⟨a, len, cap, elems, rest, m, _, rfl, _, _, hl, hm, hlen, hel, _, _⟩
      ·exact ⟨[.slice []], .cons _ _ _ _ (.empty _ _) .nil, .cons _ _ _ _ (.slice _ _ (by simp) (by simp)) .nil⟩
      ·have each : ∀ j, j < len → ∃ d, PReps Fz w ((w.cells? 0 (a.add (j * P.cellsOf e)) (P.cellsOf e)).getD []) d ∧ HasShs s1 d := by
        intro j hj
        have hj' := hel j hj
        rw [List.getElem?_eq_getElem (by omega)] at hj'
        obtain ⟨cj, e1, e2⟩ := Option.bind_eq_some_iff.1 hj'
        rw [e1]
        exact ih n (by omega) e s1 m cj _ h1 e2
       obtain ⟨els, hels, hall⟩ := list_of len each
       rcases Nat.eq_zero_or_pos len with h0 | hpos
       ·subst h0
        have : els = [] := List.eq_nil_of_length_eq_zero hels
        subst this
        exact ⟨[.slice []], .cons _ _ _ _ (.empty _ _) .nil, .cons _ _ _ _ (.slice _ _ (by simp) (by simp)) .nil⟩
       ·have hcell : ∀ j i u, j < len → ((w.cells? 0 (a.add (j * P.cellsOf e)) (P.cellsOf e)).getD [])[i]? = some u → w.cell? ((a.add (j * P.cellsOf e)).add i) = some u := by
         intro j i u hj hu'
         have hj' := hel j hj
         rw [List.getElem?_eq_getElem (by omega)] at hj'
         obtain ⟨cj, e1, e2⟩ := Option.bind_eq_some_iff.1 hj'
         rw [e1] at hu'
         simp only [Option.getD_some] at hu'
         unfold World.cells? at e1
         simp only [Nat.zero_le, if_true] at e1
         have hi : i < P.cellsOf e := by
          have h3 := (List.getElem?_eq_some_iff.1 hu').1
          have h4 := mapM_some_length e1
          simp at h4
          omega
         have := mapM_some_get e1 i i (by simp [hi])
         rw [hu'] at this
         exact this
        have hvl : ∀ j, j < len → ((w.cells? 0 (a.add (j * P.cellsOf e)) (P.cellsOf e)).getD []).length = P.cellsOf e := by
         intro j hj
         have hj' := hel j hj
         rw [List.getElem?_eq_getElem (by omega)] at hj'
         obtain ⟨cj, e1, e2⟩ := Option.bind_eq_some_iff.1 hj'
         rw [e1]
         simp only [Option.getD_some]
         unfold World.cells? at e1
         simp only [Nat.zero_le, if_true] at e1
         have h4 := mapM_some_length e1
         simpa using h4
        have hspot : ∃ b off, a = ⟨b, off, none⟩ := by
         have h1 := hvl 0 hpos
         have h2 := hcell 0 0 _ hpos (List.getElem?_eq_getElem (by omega))
         simp only [Nat.zero_mul, Addr.add, if_true] at h2
         unfold World.cell? at h2
         split at h2
         ·split at h2
          ·cases h2
          ·rename_i hs
           obtain ⟨b, off, sp⟩ := a
           simp only [Option.not_isSome_iff_eq_none] at hs
           subst hs
           exact ⟨b, off, rfl⟩
         ·cases h2
        obtain ⟨b, off, rfl⟩ := hspot
        refine ⟨[.slice els], .cons _ _ _ _ (.slice b off len cap (P.cellsOf e) els (fun j => (w.cells? 0 ((⟨b, off, none⟩ : Addr).add (j * P.cellsOf e)) (P.cellsOf e)).getD []) hels hpos hl (by omega) hvl (fun j i u hj hu' => ?_) (fun j hj => ?_)) .nil, .cons _ _ _ _ (.slice _ _ (by omega) (fun r hr => ?_)) .nil⟩
        ·have h5 := hcell j i u hj hu'
         rw [Addr.add_mid, Addr.add_mid] at h5
         exact ⟨h5, hF _ _ _ h5⟩
        ·exact (hall j hj).1
        ·obtain ⟨j, hj, rfl⟩ := List.getElem_of_mem hr
         have := (hall j (by omega)).2
         rwa [List.getD_eq_getElem?_getD, List.getElem?_eq_getElem hj] at this
     ·cases h
    ·cases h
   ·rename_i fs hu
    split at h
    ·rename_i s1 h1
     split at h
     ·rename_i hc
      cases h
      obtain ⟨xs, m, _, _, hl, hxl, hall⟩ := DataW.trod_struct hu hx
      obtain ⟨ds, h2, h3⟩ := readF hF n0 ih cs n (by omega) fs.toList 0 s h1 (fun f hf => by
       obtain ⟨i, hi, rfl⟩ := List.getElem_of_mem hf
       have h4 := hall i _ (by rw [← Array.getElem?_toList]; exact List.getElem?_eq_getElem hi)
       rw [List.getElem?_eq_getElem (by rw [hxl]; simpa using hi)] at h4
       exact ⟨m, _, h4⟩) (by omega)
      refine ⟨ds, ?_, h3⟩
      rw [List.drop_zero, List.take_of_length_le (by omega)] at h2
      exact h2
     ·cases h
    ·cases h
   ·cases h
end

end Go.Proofs.YtjgpdjakehoofaaGreatDoor



namespace Go.Proofs.YtjgpdjakehoofaaGreatDoor
open Go Go.RowKit Go.ChangeShapes Go.WideShapes Go.ChangeAt Go.WideMaps Go.WideElems
set_option linter.unusedSimpArgs false
set_option linter.unusedVariables false
set_option maxRecDepth 100000

theorem own_ : ownKnob Tryz.prog.godebug = none := by kernel_rfl
theorem laidOut_ : laidOutB Tryz.prog = true := by kernel_rfl

abbrev allFz (W : World) : Nat → Nat → Prop := fun b _ => b < W.heap.size

theorem allFz_cell {W : World} (b o : Nat) (v : Value) (h : W.cell? ⟨b, o, none⟩ = some v) : allFz W b o := by
 unfold World.cell? at h
 split at h
 ·rename_i hh; exact (Array.getElem?_eq_some_iff.1 hh).1
 ·cases h

section
variable {H : Type} {enc : TypeId × Value → H} {P : Program} {W : World} {base : Nat} {spare : Nat → Bool} {held : Bool}

theorem law_true {f : FuncId} {args : List D} {vs : List Value} (hp : Pure P f args (fun d => d = bln true)) (hr : Reps (gh0 (allFz W)) W args vs) :
 Calls P f vs.toArray W fun e w' => e = .returned (.bool true) ∧ Below W.heap.size W w' :=
 (hp (allFz W) W vs (fun _ _ h => h) hr).mono fun e w' ⟨v, d, Fz', h1, h2, _, h4, _, _, _, h8⟩ => by
  subst h2
  refine ⟨?_, h4⟩
  rw [h1]
  have := raw_inv h8
  rw [this]
end


theorem rows_of {α : Type} {f : α → List PD} {s : List Sh} (h : ∀ {r}, HasShs s r → ∃ a, r = f a) : ∀ {els : List (List PD)}, (∀ r ∈ els, HasShs s r) → ∃ l : List α, els = rows f l
 | [], _ => ⟨[], rfl⟩
 | r :: els, hr => by
   obtain ⟨l, rfl⟩ := rows_of h (fun r hr' => hr r (List.mem_cons_of_mem _ hr'))
   obtain ⟨a, rfl⟩ := h (hr r List.mem_cons_self)
   exact ⟨a :: l, rfl⟩

theorem int_row {r : List PD} (h : HasShs [.int .i64] r) : ∃ n, r = cInt n := by
 cases h with
 | cons _ d _ _ a1 h0 => cases h0; cases a1; exact ⟨_, rfl⟩

theorem str_row {r : List PD} (h : HasShs [.str] r) : ∃ n, r = cStr n := by
 cases h with
 | cons _ d _ _ a1 h0 => cases h0; cases a1; exact ⟨_, rfl⟩

abbrev pairShs : List Sh := [.str, .str]

theorem pair_row {r : List PD} (h : HasShs pairShs r) : ∃ a, r = APair.pd a := by
 cases h with
 | cons _ d1 _ _ a1 h1 =>
 cases h1 with
 | cons _ d2 _ _ a2 h2 =>
 cases h2
 cases a1 with
 | str x1 _ =>
 cases a2 with
 | str x2 _ =>
 exact ⟨⟨x1, x2⟩, rfl⟩

abbrev needShs : List Sh := [.int .i64, .str, .slice [.str]]

theorem need_row {r : List PD} (h : HasShs needShs r) : ∃ a, r = ANeed.pd a := by
 cases h with
 | cons _ d1 _ _ a1 h1 =>
 cases h1 with
 | cons _ d2 _ _ a2 h2 =>
 cases h2 with
 | cons _ d3 _ _ a3 h3 =>
 cases h3
 cases a1 with
 | int _ x1 _ =>
 cases a2 with
 | str x2 _ =>
 cases a3 with
 | slice _ els3 _ k3 =>
 obtain ⟨x3, rfl⟩ := rows_of str_row k3
 exact ⟨⟨x1, x2, x3⟩, rfl⟩

abbrev parentShs : List Sh := [.str, .str, .str, .int .i64]

theorem parent_row {r : List PD} (h : HasShs parentShs r) : ∃ a, r = AParent.pd a := by
 cases h with
 | cons _ d1 _ _ a1 h1 =>
 cases h1 with
 | cons _ d2 _ _ a2 h2 =>
 cases h2 with
 | cons _ d3 _ _ a3 h3 =>
 cases h3 with
 | cons _ d4 _ _ a4 h4 =>
 cases h4
 cases a1 with
 | str x1 _ =>
 cases a2 with
 | str x2 _ =>
 cases a3 with
 | str x3 _ =>
 cases a4 with
 | int _ x4 _ =>
 exact ⟨⟨x1, x2, x3, x4⟩, rfl⟩

abbrev backendShs : List Sh := [.int .i64, .str, .str, .int .i64, .int .i64]

theorem backend_row {r : List PD} (h : HasShs backendShs r) : ∃ a, r = ABackend.pd a := by
 cases h with
 | cons _ d1 _ _ a1 h1 =>
 cases h1 with
 | cons _ d2 _ _ a2 h2 =>
 cases h2 with
 | cons _ d3 _ _ a3 h3 =>
 cases h3 with
 | cons _ d4 _ _ a4 h4 =>
 cases h4 with
 | cons _ d5 _ _ a5 h5 =>
 cases h5
 cases a1 with
 | int _ x1 _ =>
 cases a2 with
 | str x2 _ =>
 cases a3 with
 | str x3 _ =>
 cases a4 with
 | int _ x4 _ =>
 cases a5 with
 | int _ x5 _ =>
 exact ⟨⟨⟨x1, x2, x3⟩, x4, x5⟩, rfl⟩

abbrev filterShs : List Sh := [.int .i64, .str, .str, .str, .int .i64, .str, .bool, .int .i64]

theorem filter_row {r : List PD} (h : HasShs filterShs r) : ∃ a, r = AFilter.pd a := by
 cases h with
 | cons _ d1 _ _ a1 h1 =>
 cases h1 with
 | cons _ d2 _ _ a2 h2 =>
 cases h2 with
 | cons _ d3 _ _ a3 h3 =>
 cases h3 with
 | cons _ d4 _ _ a4 h4 =>
 cases h4 with
 | cons _ d5 _ _ a5 h5 =>
 cases h5 with
 | cons _ d6 _ _ a6 h6 =>
 cases h6 with
 | cons _ d7 _ _ a7 h7 =>
 cases h7 with
 | cons _ d8 _ _ a8 h8 =>
 cases h8
 cases a1 with
 | int _ x1 _ =>
 cases a2 with
 | str x2 _ =>
 cases a3 with
 | str x3 _ =>
 cases a4 with
 | str x4 _ =>
 cases a5 with
 | int _ x5 _ =>
 cases a6 with
 | str x6 _ =>
 cases a7 with
 | bool x7 =>
 cases a8 with
 | int _ x8 _ =>
 exact ⟨⟨x1, x2, x3, x4, x5, x6, x7, x8⟩, rfl⟩

abbrev sideShs : List Sh := [.int .i64, .str, .str]

theorem side_row {r : List PD} (h : HasShs sideShs r) : ∃ a, r = ASide.pd a := by
 cases h with
 | cons _ d1 _ _ a1 h1 =>
 cases h1 with
 | cons _ d2 _ _ a2 h2 =>
 cases h2 with
 | cons _ d3 _ _ a3 h3 =>
 cases h3
 cases a1 with
 | int _ x1 _ =>
 cases a2 with
 | str x2 _ =>
 cases a3 with
 | str x3 _ =>
 exact ⟨⟨x1, x2, x3⟩, rfl⟩

abbrev matchShs : List Sh := [.int .i64, .str, .str, .slice pairShs, .slice pairShs]

theorem match_row {r : List PD} (h : HasShs matchShs r) : ∃ a, r = AMatch.pd a := by
 cases h with
 | cons _ d1 _ _ a1 h1 =>
 cases h1 with
 | cons _ d2 _ _ a2 h2 =>
 cases h2 with
 | cons _ d3 _ _ a3 h3 =>
 cases h3 with
 | cons _ d4 _ _ a4 h4 =>
 cases h4 with
 | cons _ d5 _ _ a5 h5 =>
 cases h5
 cases a1 with
 | int _ x1 _ =>
 cases a2 with
 | str x2 _ =>
 cases a3 with
 | str x3 _ =>
 cases a4 with
 | slice _ els4 _ k4 =>
 obtain ⟨x4, rfl⟩ := rows_of pair_row k4
 cases a5 with
 | slice _ els5 _ k5 =>
 obtain ⟨x5, rfl⟩ := rows_of pair_row k5
 exact ⟨⟨x1, x2, x3, x4, x5⟩, rfl⟩

abbrev listenerShs : List Sh := [.str, .int .i64, .bool, .str, .int .i64, .str, .str, .int .i64, .slice needShs]

theorem listener_row {r : List PD} (h : HasShs listenerShs r) : ∃ a, r = AListener.pd a := by
 cases h with
 | cons _ d1 _ _ a1 h1 =>
 cases h1 with
 | cons _ d2 _ _ a2 h2 =>
 cases h2 with
 | cons _ d3 _ _ a3 h3 =>
 cases h3 with
 | cons _ d4 _ _ a4 h4 =>
 cases h4 with
 | cons _ d5 _ _ a5 h5 =>
 cases h5 with
 | cons _ d6 _ _ a6 h6 =>
 cases h6 with
 | cons _ d7 _ _ a7 h7 =>
 cases h7 with
 | cons _ d8 _ _ a8 h8 =>
 cases h8 with
 | cons _ d9 _ _ a9 h9 =>
 cases h9
 cases a1 with
 | str x1 _ =>
 cases a2 with
 | int _ x2 _ =>
 cases a3 with
 | bool x3 =>
 cases a4 with
 | str x4 _ =>
 cases a5 with
 | int _ x5 _ =>
 cases a6 with
 | str x6 _ =>
 cases a7 with
 | str x7 _ =>
 cases a8 with
 | int _ x8 _ =>
 cases a9 with
 | slice _ els9 _ k9 =>
 obtain ⟨x9, rfl⟩ := rows_of need_row k9
 exact ⟨⟨x1, x2, x3, x4, ⟨x5, x6, x7⟩, x8, x9⟩, rfl⟩

abbrev ruleShs : List Sh := [.slice matchShs, .slice filterShs, .slice backendShs]

theorem rule_row {r : List PD} (h : HasShs ruleShs r) : ∃ a, r = ARule.pd a := by
 cases h with
 | cons _ d1 _ _ a1 h1 =>
 cases h1 with
 | cons _ d2 _ _ a2 h2 =>
 cases h2 with
 | cons _ d3 _ _ a3 h3 =>
 cases h3
 cases a1 with
 | slice _ els1 _ k1 =>
 obtain ⟨x1, rfl⟩ := rows_of match_row k1
 cases a2 with
 | slice _ els2 _ k2 =>
 obtain ⟨x2, rfl⟩ := rows_of filter_row k2
 cases a3 with
 | slice _ els3 _ k3 =>
 obtain ⟨x3, rfl⟩ := rows_of backend_row k3
 exact ⟨⟨x1, x2, x3⟩, rfl⟩

abbrev objShs : List Sh := [.int .i64, .str, .str, .bool, .slice pairShs, .slice [.int .i64], .str, .slice listenerShs, .slice parentShs, .slice [.str], .slice ruleShs, .slice sideShs, .slice sideShs]

theorem obj_row {r : List PD} (h : HasShs objShs r) : ∃ a, r = AObj.pd a := by
 cases h with
 | cons _ d1 _ _ a1 h1 =>
 cases h1 with
 | cons _ d2 _ _ a2 h2 =>
 cases h2 with
 | cons _ d3 _ _ a3 h3 =>
 cases h3 with
 | cons _ d4 _ _ a4 h4 =>
 cases h4 with
 | cons _ d5 _ _ a5 h5 =>
 cases h5 with
 | cons _ d6 _ _ a6 h6 =>
 cases h6 with
 | cons _ d7 _ _ a7 h7 =>
 cases h7 with
 | cons _ d8 _ _ a8 h8 =>
 cases h8 with
 | cons _ d9 _ _ a9 h9 =>
 cases h9 with
 | cons _ d10 _ _ a10 h10 =>
 cases h10 with
 | cons _ d11 _ _ a11 h11 =>
 cases h11 with
 | cons _ d12 _ _ a12 h12 =>
 cases h12 with
 | cons _ d13 _ _ a13 h13 =>
 cases h13
 cases a1 with
 | int _ x1 _ =>
 cases a2 with
 | str x2 _ =>
 cases a3 with
 | str x3 _ =>
 cases a4 with
 | bool x4 =>
 cases a5 with
 | slice _ els5 _ k5 =>
 obtain ⟨x5, rfl⟩ := rows_of pair_row k5
 cases a6 with
 | slice _ els6 _ k6 =>
 obtain ⟨x6, rfl⟩ := rows_of int_row k6
 cases a7 with
 | str x7 _ =>
 cases a8 with
 | slice _ els8 _ k8 =>
 obtain ⟨x8, rfl⟩ := rows_of listener_row k8
 cases a9 with
 | slice _ els9 _ k9 =>
 obtain ⟨x9, rfl⟩ := rows_of parent_row k9
 cases a10 with
 | slice _ els10 _ k10 =>
 obtain ⟨x10, rfl⟩ := rows_of str_row k10
 cases a11 with
 | slice _ els11 _ k11 =>
 obtain ⟨x11, rfl⟩ := rows_of rule_row k11
 cases a12 with
 | slice _ els12 _ k12 =>
 obtain ⟨x12, rfl⟩ := rows_of side_row k12
 cases a13 with
 | slice _ els13 _ k13 =>
 obtain ⟨x13, rfl⟩ := rows_of side_row k13
 exact ⟨⟨⟨x1, x2, x3⟩, x4, x5, x6, x7, x8, x9, x10, x11, x12, x13⟩, rfl⟩

section
variable {H : Type} {enc : TypeId × Value → H} {P : Program} {W : World} {base : Nat} {spare : Nat → Bool} {held : Bool}

theorem arg_struct {t : TypeId} {fs : Array Field} {v : Value} {d : DataW H} {ps : List MemPlace} {n : Nat} {s : List Sh} (hu : P.underlying t = some (.struct fs)) (hv : Value.okWide P W .any base t v) (h : DataW.Trod enc P W 0 spare held t v d ps)
 (hs : shp P n t = some s) : ∃ ds, Rep (gh0 (allFz W)) W (.agg (ds.map D.pd)) v ∧ HasShs s ds := by
 obtain ⟨cs, rfl, hsz⟩ := okWide_struct hu hv
 obtain ⟨fuel, hf⟩ := h
 obtain ⟨ds, h1, h2⟩ := read (Fz := allFz W) allFz_cell n n (Nat.le_refl _) t _ fuel _ _ hs hf
 have hl : cs.toList.length = P.cellsOf t := by simpa using hsz
 refine ⟨ds, ?_, h2⟩
 simp only [Rep]
 exact ⟨cs.toList, by simp, Reps.of_pd (g := gh0 (allFz W)) h1⟩

theorem arg_obj {t : TypeId} {fs : Array Field} {v : Value} {d : DataW H} {ps : List MemPlace} {n : Nat} (hu : P.underlying t = some (.struct fs)) (hv : Value.okWide P W .any base t v) (h : DataW.Trod enc P W 0 spare held t v d ps)
 (hs : shp P n t = some objShs) : ∃ o : AObj, Rep (gh0 (allFz W)) W o.d v := by
 obtain ⟨ds, h1, h2⟩ := arg_struct hu hv h hs
 obtain ⟨o, rfl⟩ := obj_row h2
 exact ⟨o, h1⟩

end

end Go.Proofs.YtjgpdjakehoofaaGreatDoor



namespace Go.Proofs.YtjgpdjakehoofaaGreatDoor
open Go Go.RowKit
set_option linter.unusedSimpArgs false
set_option linter.unusedVariables false
set_option maxRecDepth 100000

abbrev i32 (n : Int) : D := .pd (.raw (.int .i32 n))
abbrev u8 (n : Int) : D := .pd (.raw (.int .u8 n))

def octet (c : Int) : Bool := (decide (97 ≤ c) && decide (c ≤ 122)) || (decide (48 ≤ c) && decide (c ≤ 57)) || decide (c = 45)

theorem dns_octet (c : Int) : Pure Tryz.prog 150 [i32 c] (fun d => d = bln (octet c)) := by
 refine pure_of_run follows an_zsl5t Tryz.func150 rfl ok_zsl5t.1 ok_zsl5t.2 (by simp [Tryz.ntmps150]) ?_
 rw [run_start]
 simp only [ac_zsl5t, go_sem, contS_seq, simprocAttr]
 repeat' (first | refine GifP.mk (fun _ => ?_) (fun _ => ?_) | refine Gif.mk (fun _ => ?_) (fun _ => ?_))
 all_goals
  simp only [retK, resD, retL, oneD, simprocAttr, Tryz.results150]
  exact ⟨_, rfl, rfl, congrArg bln (by first | rfl | (rw [Bool.eq_iff_iff]; simp only [octet]; (first | (simp; done) | (simp; omega) | (simp [*]; done) | (simp [*]; omega))) | (simp_all [octet]; done) | (exfalso; omega))⟩

theorem dns_Label_1 (c : Int) : Pure Tryz.prog 149 [i32 c] (fun d => d = bln (!octet c)) := by
 refine pure_of_run follows an_zmcx0 Tryz.func149 rfl ok_zmcx0.1 ok_zmcx0.2 (by simp [Tryz.ntmps149]) ?_
 rw [run_start]
 simp only [ac_zmcx0, go_sem, contS_seq, simprocAttr]
 refine (dns_octet _).callW (enters_of Tryz.func150 rfl rfl) _ rfl rfl ?_
 rintro d rfl
 simp only [go_sem, contS_seq, simprocAttr]
 simp only [retK, resD, retL, oneD, simprocAttr, Tryz.results149]
 exact ⟨_, rfl, rfl, rfl⟩

def runeIdx (p : Int → Bool) (s : ByteArray) : Nat → Nat → Int
 | 0, _ => -1
 | f + 1, pos => if pos < s.size then (if p (Utf8.decode s pos).1 then (pos : Int) else runeIdx p s f (pos + (Utf8.decode s pos).2)) else -1

theorem width_pos (s : ByteArray) (pos : Nat) : 1 ≤ (Utf8.decode s pos).2 := by
 unfold Utf8.decode
 dsimp only
 repeat' split
 all_goals simp

theorem runeIdx_end {p : Int → Bool} {s : ByteArray} {f pos : Nat} (h : ¬ pos < s.size) : runeIdx p s f pos = -1 := by cases f <;> simp [runeIdx, h]

theorem strings_indexFunc (p : Int → Bool) (f : FuncId) (he : Enters Tryz.prog f) (hp : ∀ c, Pure Tryz.prog f [i32 c] (fun d => d = bln (p c))) (s : ByteArray) :
 Pure Tryz.prog 201 [str s, .fn f [], bln true] (fun d => d = int (runeIdx p s s.size 0)) := by
 refine pure_of_run follows an_zkca0 Tryz.func201 rfl ok_zkca0.1 ok_zkca0.2 (by simp [Tryz.ntmps201]) ?_
 rw [run_start]
 simp only [ac_zkca0, go_sem, contS_seq, simprocAttr]
 refine loopS (fun k st => ∃ pos : Nat, s.size ≤ pos + k ∧ runeIdx p s k pos = runeIdx p s s.size 0 ∧
  st = ⟨[(1, .fn f []), (2, bln true), (10, .ptr 10 0)], [], [(10, .sit s pos)], .no⟩) s.size _ (Weak.refl _ _) ⟨0, by omega, rfl, rfl⟩ ?_
 rintro k st ⟨pos, hk, hr, rfl⟩
 by_cases hlt : pos < s.size
 ·obtain ⟨k, rfl⟩ : ∃ m, k = m + 1 := ⟨k - 1, by omega⟩
  have hw := width_pos s pos
  simp only [go_sem, contS_seq, simprocAttr, hlt]
  refine (hp _).callW he _ rfl rfl ?_
  rintro d rfl
  simp only [runeIdx, hlt, if_true] at hr
  simp only [go_sem, contS_seq, simprocAttr]
  refine ⟨fun h => ?_, fun h => ?_⟩
  ·simp only [retK, resD, retL, oneD, simprocAttr, Tryz.results201]
   simp at h
   simp only [h, if_true] at hr
   exact ⟨_, rfl, rfl, congrArg int hr⟩
  ·simp at h
   simp only [h, Bool.false_eq_true, if_false] at hr
   refine ⟨k, _, ?_, ?_, pos + (Utf8.decode s pos).2, ?_, hr, rfl⟩
   ·omega
   ·exact lessA
   ·omega
 ·simp only [go_sem, contS_seq, simprocAttr, hlt]
  simp only [retK, resD, retL, oneD, simprocAttr, Tryz.results201]
  rw [runeIdx_end hlt] at hr
  exact ⟨_, rfl, rfl, congrArg int hr⟩

theorem strings_IndexFunc (p : Int → Bool) (f : FuncId) (he : Enters Tryz.prog f) (hp : ∀ c, Pure Tryz.prog f [i32 c] (fun d => d = bln (p c))) (s : ByteArray) :
 Pure Tryz.prog 151 [str s, .fn f []] (fun d => d = int (runeIdx p s s.size 0)) := by
 refine pure_of_run follows an_zgrrf Tryz.func151 rfl ok_zgrrf.1 ok_zgrrf.2 (by simp [Tryz.ntmps151]) ?_
 rw [run_start]
 simp only [ac_zgrrf, go_sem, contS_seq, simprocAttr]
 refine (strings_indexFunc p f he hp s).callW (enters_of Tryz.func201 rfl rfl) _ rfl rfl ?_
 rintro d rfl
 simp only [go_sem, contS_seq, simprocAttr]
 simp only [retK, resD, retL, oneD, simprocAttr, Tryz.results151]
 exact ⟨_, rfl, rfl, rfl⟩

def label (s : ByteArray) : Bool :=
 !decide (s = ⟨#[]⟩) && decide (s.size ≤ 20) && decide (runeIdx (fun c => !octet c) s s.size 0 < 0) && (match s[0]? with | some b => !decide (b.toNat = 45) | none => false) && (match s[s.size - 1]? with | some b => !decide (b.toNat = 45) | none => false)

theorem at_byte {s : ByteArray} {i : Nat} (h : i < s.size) : ∃ b, s[i]? = some b := ⟨s[i], by simp [h]⟩

theorem size_pos {s : ByteArray} (h : s ≠ ⟨#[]⟩) : 0 < s.size := by
 rcases Nat.eq_zero_or_pos s.size with h0 | h0
 ·exact absurd (by cases s with | mk a => simp only [ByteArray.size] at h0; rw [Array.eq_empty_of_size_eq_zero h0]) h
 ·exact h0

theorem dns_Label (s : ByteArray) : Pure Tryz.prog 94 [str s] (fun d => d = bln (label s)) := by
 refine pure_of_run follows an_zovze Tryz.func94 rfl ok_zovze.1 ok_zovze.2 (by simp [Tryz.ntmps94]) ?_
 rw [run_start]
 simp only [ac_zovze, go_sem, contS_seq, simprocAttr]
 refine GifP.mk (fun h1 => ?_) (fun h1 => ?_)
 ·simp only [retK, resD, retL, oneD, simprocAttr, Tryz.results94]
  exact ⟨_, rfl, rfl, congrArg bln (by simp [label, h1])⟩
 have hpos := size_pos h1
 refine GifP.mk (fun h2 => ?_) (fun h2 => ?_)
 rotate_left
 ·simp only [retK, resD, retL, oneD, simprocAttr, Tryz.results94]
  exact ⟨_, rfl, rfl, congrArg bln (by simp [label]; omega)⟩
 refine (strings_IndexFunc _ _ (enters_of Tryz.func149 rfl rfl) dns_Label_1 s).callW (enters_of Tryz.func151 rfl rfl) _ rfl rfl ?_
 rintro d rfl
 obtain ⟨b0, hb0⟩ : ∃ b, s[0]? = some b := at_byte hpos
 obtain ⟨b1, hb1⟩ : ∃ b, s[s.size - 1]? = some b := at_byte (by omega)
 have hw : IntKind.i64.wrap ((s.size : Int) - 1) = ((s.size - 1 : Nat) : Int) := by rw [IntWalk.i64_in _ (by omega)]; omega
 simp only [go_sem, contS_seq, simprocAttr, hb0, hb1, hw]
 have h20 : s.size ≤ 20 := by omega
 repeat' (first | refine GifP.mk (fun _ => ?_) (fun _ => ?_) | refine Gif.mk (fun _ => ?_) (fun _ => ?_))
 all_goals
  simp only [retK, resD, retL, oneD, simprocAttr, Tryz.results94]
  exact ⟨_, rfl, rfl, congrArg bln (by first | rfl | (rw [Bool.eq_iff_iff]; simp only [label, hb0, hb1, h1, h20]; (first | (simp; done) | (simp; omega) | (simp [*]; done) | (simp [*]; omega))) | (simp_all [label, hb0, hb1, h1, h20]; done) | (exfalso; omega))⟩


theorem pure_of_calls {P : Program} {f : FuncId} {args : List D} {vs : List Value} {v : Value} {d : D} (ha : ∀ g w us, Reps g w args us → us = vs) (hd : d.closed = true) (hv : ∀ g w, Rep g w d v)
 (h : ∀ w, Calls P f vs.toArray w fun e w' => e = .returned v ∧ w' = w) : Pure P f args (fun x => x = d) := by
 intro Fz w us hlt hr
 obtain rfl := ha _ _ _ hr
 refine (h w).mono ?_
 rintro e w' ⟨rfl, rfl⟩
 exact ⟨v, d, Fz, rfl, rfl, hd, Below.refl _ _, Ex.refl _ _, hlt, fun _ _ h _ => h, hv _ _⟩

set_option maxHeartbeats 1000000 in
set_option maxRecDepth 100000 in
theorem run_stringslite_IndexByte (s : ByteArray) (c : Int) (w : World) :
 Calls Tryz.prog 273 #[.string s, .int .u8 c] w fun e w' => e = .returned (.int .i64 (Lib.indexByte s.data.toList c.toNat.toUInt8)) ∧ w' = w := by
 go_enter Tryz.func273, Tryz.ntmps273
 go_wp2
 rw [run_callFunc_extern Tryz.func286 (by kernel_rfl) (by kernel_rfl) (by kernel_rfl) (e := Extern.BytealgIndexByte.indexByte) (by kernel_rfl), Lib.run_indexByteString]
 simp only [Result.andThen]
 rw [Oper.upon_value]
 go_wp2
 go_ret
 exact ⟨rfl, rfl⟩

theorem rep_raw_inv {g : Gh} {w : World} {v u : Value} (h : Rep g w (.pd (.raw v)) u) : u = v := by
 simp only [Rep] at h
 cases h; rfl

theorem reps_two {g : Gh} {w : World} {a b : Value} {us : List Value} (h : Reps g w [.pd (.raw a), .pd (.raw b)] us) : us = [a, b] := by
 simp only [Reps] at h
 obtain ⟨x, r, rfl, hx, y, r', rfl, hy, rfl⟩ := h
 rw [rep_raw_inv hx, rep_raw_inv hy]

theorem stringslite_IndexByte (s : ByteArray) (c : Int) : Pure Tryz.prog 273 [str s, u8 c] (fun d => d = int (Lib.indexByte s.data.toList c.toNat.toUInt8)) :=
 pure_of_calls (vs := [.string s, .int .u8 c]) (v := .int .i64 (Lib.indexByte s.data.toList c.toNat.toUInt8)) (fun _ _ _ h => reps_two h) rfl (fun _ _ => by simp only [Rep]; exact .raw _ rfl) (run_stringslite_IndexByte s c)

theorem strings_IndexByte (s : ByteArray) (c : Int) : Pure Tryz.prog 256 [str s, u8 c] (fun d => d = int (Lib.indexByte s.data.toList c.toNat.toUInt8)) := by
 refine pure_of_run follows an_zixxy Tryz.func256 rfl ok_zixxy.1 ok_zixxy.2 (by simp [Tryz.ntmps256]) ?_
 rw [run_start]
 simp only [ac_zixxy, go_sem, contS_seq, simprocAttr]
 refine (stringslite_IndexByte s c).callW (enters_of Tryz.func273 rfl rfl) _ rfl rfl ?_
 rintro d rfl
 simp only [go_sem, contS_seq, simprocAttr]
 simp only [retK, resD, retL, oneD, simprocAttr, Tryz.results256]
 exact ⟨_, rfl, rfl, rfl⟩

theorem stringslite_Index (s : ByteArray) (c : UInt8) : Pure Tryz.prog 268 [str s, str ⟨#[c]⟩] (fun d => d = int (Lib.indexByte s.data.toList c)) := by
 refine pure_of_run follows an_zn6ys Tryz.func268 rfl ok_zn6ys.1 ok_zn6ys.2 (by simp [Tryz.ntmps268]) ?_
 rw [run_start]
 have h1 : (ByteArray.mk #[c]).size = 1 := rfl
 have h2 : (ByteArray.mk #[c])[0]? = some c := rfl
 have h3 : ((1 : Nat) : Int) = 1 := rfl
 have h4 : ((1 : Int) = 0) = False := by simp
 simp only [ac_zn6ys, go_sem, contS_seq, simprocAttr, h1, h2, h3, h4]
 refine GifP.mk (fun he => ?_) (fun he => ?_)
 ·simp only [retK, resD, retL, oneD, simprocAttr, Tryz.results268]
  exact ⟨_, rfl, rfl, congrArg int (by rw [← he]; simp [Lib.indexByte])⟩
 refine (stringslite_IndexByte s c.toNat).callW (enters_of Tryz.func273 rfl rfl) _ rfl rfl ?_
 rintro d rfl
 simp only [go_sem, contS_seq, simprocAttr]
 simp only [retK, resD, retL, oneD, simprocAttr, Tryz.results268]
 exact ⟨_, rfl, rfl, congrArg int (by simp)⟩

theorem strings_Index (s : ByteArray) (c : UInt8) : Pure Tryz.prog 243 [str s, str ⟨#[c]⟩] (fun d => d = int (Lib.indexByte s.data.toList c)) := by
 refine pure_of_run follows an_z89f Tryz.func243 rfl ok_z89f.1 ok_z89f.2 (by simp [Tryz.ntmps243]) ?_
 rw [run_start]
 simp only [ac_z89f, go_sem, contS_seq, simprocAttr]
 refine (stringslite_Index s c).callW (enters_of Tryz.func268 rfl rfl) _ rfl rfl ?_
 rintro d rfl
 simp only [go_sem, contS_seq, simprocAttr]
 simp only [retK, resD, retL, oneD, simprocAttr, Tryz.results243]
 exact ⟨_, rfl, rfl, rfl⟩

def splitB (c : UInt8) : Nat → ByteArray → List ByteArray
 | 0, s => [s]
 | f + 1, s => if Lib.indexByte s.data.toList c < 0 then [s] else s.extract 0 (Lib.indexByte s.data.toList c).toNat :: splitB c f (s.extract ((Lib.indexByte s.data.toList c).toNat + 1) s.size)

theorem indexByte_lt : ∀ (l : List UInt8) (c : UInt8), Lib.indexByte l c < 0 ∨ Lib.indexByte l c < l.length
 | [], c => by simp [Lib.indexByte]
 | b :: l, c => by
   have := indexByte_lt l c
   simp only [Lib.indexByte, List.length_cons]
   split
   ·right; omega
   ·split
    ·left; decide
    ·right; rename_i h1 h2; have := Lib.indexByte_ge l c; simp at h2; omega

theorem size_list (s : ByteArray) : s.data.toList.length = s.size := rfl

theorem drop_cons_at {α : Type} {l r : List α} {i : Nat} {x : α} (h : l.drop i = x :: r) : l[i]? = some x ∧ l.drop (i + 1) = r := by
 constructor
 ·have := congrArg (fun m => m[0]?) h
  simpa using this
 ·have := congrArg (fun m => m.drop 1) h
  simpa [List.drop_drop] using this

theorem splitB_end {c : UInt8} {k : Nat} {r : ByteArray} (h : Lib.indexByte r.data.toList c < 0) : splitB c k r = [r] := by
 cases k <;> simp [splitB, h]

set_option maxRecDepth 100000 in
theorem splitSeq_1 (c : UInt8) (s : ByteArray) (hs : s.size ≤ 1000000) : IterB Tryz.prog 241 [(500001, 0), (500002, 0), (500003, 0)] [(500001, [str ⟨#[c]⟩]), (500002, [str s]), (500003, [int 0])] ((splitB c s.size s).map Value.string) := by
 refine iter_of_run follows an_zjcnn Tryz.func241 rfl ok_zjcnn.1 ok_zjcnn.2 (by simp [Tryz.ntmps241]) rfl ?_
 intro l
 rw [run_start]
 have h1 : (ByteArray.mk #[c]).size = 1 := rfl
 have h3 : ((1 : Nat) : Int) = 1 := rfl
 have h4 : ((1 : Int) = 0) = False := by simp
 obtain ⟨X, hX⟩ : ∃ X, X = ((splitB c s.size s).map Value.string).map ([·]) := ⟨_, rfl⟩
 rw [← hX]
 simp only [ac_zjcnn, go_sem, contS_seq, simprocAttr, h1, h3, h4]
 refine loopS (fun k st => ∃ (i : Nat) (r : ByteArray), r.size ≤ k ∧ r.size ≤ 1000000 ∧ X.drop i = ((splitB c k r).map Value.string).map ([·]) ∧
  st = ⟨[(0, yieldD l), (1, .ptr 500001 0), (2, .ptr 500002 0), (3, .ptr 500003 0)], [(500001, [str ⟨#[c]⟩]), (500002, [str r]), (500003, [int 0])], [], .it l X i false⟩) s.size _ ?_ ⟨0, s, Nat.le_refl _, hs, hX, rfl⟩ ?_
 ·exact lessA
 rintro k st ⟨i, r, hk, hrs, hdr, rfl⟩
 obtain ⟨j, hj⟩ : ∃ j, Lib.indexByte r.data.toList c = j := ⟨_, rfl⟩
 simp only [go_sem, contS_seq, simprocAttr]
 refine (strings_Index r c).callW (enters_of Tryz.func243 rfl rfl) _ rfl rfl ?_
 rintro d rfl
 rw [hj]
 by_cases hj0 : j < 0
 ·rw [splitB_end (by omega)] at hdr
  obtain ⟨e1, e2⟩ := drop_cons_at hdr
  have e3 : X.length ≤ i + 1 := by simpa using List.drop_eq_nil_iff.1 e2
  have e4 : i < X.length := (List.getElem?_eq_some_iff.1 e1).1
  simp only [go_sem, contS_seq, simprocAttr, hj0, e1]
  exact ⟨⟨[], _, _, rfl, rfl, fun _ => by omega⟩, ⟨[], _, _, rfl, rfl, fun h => by cases h⟩⟩
 ·obtain ⟨m, rfl⟩ : ∃ m : Nat, j = m := ⟨j.toNat, by omega⟩
  have hm : m < r.size := by
   have := indexByte_lt r.data.toList c
   rw [hj, size_list] at this
   omega
  obtain ⟨k, rfl⟩ : ∃ n, k = n + 1 := ⟨k - 1, by omega⟩
  have hsp : splitB c (k + 1) r = r.extract 0 m :: splitB c k (r.extract (m + 1) r.size) := by
   rw [splitB, hj, if_neg hj0, Int.toNat_natCast]
  rw [hsp] at hdr
  obtain ⟨e1, e2⟩ := drop_cons_at hdr
  have w1 : IntKind.i64.wrap ((m : Int) + 0) = (m : Int) := by rw [IntWalk.i64_in _ (by omega)]; omega
  have w2 : IntKind.i64.wrap ((m : Int) + 1) = ((m + 1 : Nat) : Int) := by rw [IntWalk.i64_in _ (by omega)]; omega
  have c1 : (m ≤ r.size) = True := by simp; omega
  have c2 : (m + 1 ≤ r.size) = True := by simp; omega
  have hsz : (r.extract (m + 1) r.size).size = r.size - (m + 1) := by simp [ByteArray.size_extract]
  simp only [go_sem, contS_seq, simprocAttr, hj0, w1, w2, h1, h3, c1, c2, e1]
  refine ⟨⟨k, _, ?_, ?_, i + 1, r.extract (m + 1) r.size, ?_, ?_, e2, rfl⟩, ⟨[], _, _, rfl, rfl, fun h => by cases h⟩⟩
  ·omega
  ·exact lessA
  ·omega
  ·omega

theorem strings_splitSeq (s sep : ByteArray) : Full Tryz.prog 200 [str s, str sep, int 0] [] true (fun d bs => d = .fn 241 [(4, 0), (3, 0), (5, 0)] ∧ bs = [(4, [str sep]), (3, [str s]), (5, [int 0])]) := by
 refine full_of_run follows an_z70r5 Tryz.func200 rfl ok_z70r5.1 ok_z70r5.2 (by simp [Tryz.ntmps200]) (by simp [Tryz.ntmps200]) (.inl rfl) ?_
 rw [run_start]
 simp only [ac_z70r5, go_sem, contS_seq, simprocAttr]
 simp only [retK, fullK, resD, retL, oneD, simprocAttr, Tryz.results200]
 exact ⟨_, _, rfl, by simp [lessL, lk], rfl, rfl⟩

theorem strings_SplitSeq (s sep : ByteArray) : Full Tryz.prog 148 [str s, str sep] [] true (fun d bs => d = .fn 241 [(200001, 0), (200002, 0), (200003, 0)] ∧ bs = [(200001, [str sep]), (200002, [str s]), (200003, [int 0])]) := by
 refine full_of_run follows an_zln7r Tryz.func148 rfl ok_zln7r.1 ok_zln7r.2 (by simp [Tryz.ntmps148]) (by simp [Tryz.ntmps148]) (.inl rfl) ?_
 rw [run_start]
 simp only [ac_zln7r, go_sem, contS_seq, simprocAttr]
 refine (strings_splitSeq s sep).callW (enters_of Tryz.func200 rfl rfl) _ false [] [] [(4, 200001), (3, 200002), (5, 200003)] [] rfl rfl rfl ?_
 rintro d bs ⟨rfl, rfl⟩
 simp only [go_sem, contS_seq, simprocAttr]
 simp only [retK, fullK, resD, retL, oneD, simprocAttr, Tryz.results148]
 exact ⟨_, _, rfl, by simp [lessL, lk], rfl, rfl⟩

def dname (s : ByteArray) : Bool := decide (s.size ≤ 60) && (splitB 46 s.size s).all label

set_option maxRecDepth 100000 in
theorem dns_Name (s : ByteArray) : Pure Tryz.prog 93 [str s] (fun d => d = bln (dname s)) := by
 refine pure_of_run follows an_zmldt Tryz.func93 rfl ok_zmldt.1 ok_zmldt.2 (by simp [Tryz.ntmps93]) ?_
 rw [run_start]
 simp only [ac_zmldt, go_sem, contS_seq, simprocAttr]
 refine GifP.mk (fun h => ?_) (fun h => ?_)
 ·simp only [retK, iterK, resD, resA, AOp.ex, St.ev, retL, oneD, simprocAttr, ret_zmldt]
  exact ⟨_, rfl, rfl, congrArg bln (by simp only [dname]; simp; omega)⟩
 have h60 : s.size ≤ 60 := by omega
 refine (strings_SplitSeq s ⟨#[46]⟩).callW (enters_of Tryz.func148 rfl rfl) _ false [] [] [(200001, 200011), (200002, 200012), (200003, 200013)] [] rfl rfl rfl ?_
 rintro d bs ⟨rfl, rfl⟩
 simp only [go_sem, contS_seq, simprocAttr]
 refine rangeS ((splitB 46 s.size s).map Value.string) (fun i bs => (∀ j x, j < i → (splitB 46 s.size s)[j]? = some x → label x = true) ∧ bs = [(2, [bln false])]) rfl rfl rfl
  ((splitSeq_1 46 s (by omega)).iterW (enters_of Tryz.func241 rfl rfl) false [(200011, 500001), (200012, 500002), (200013, 500003)] rfl rfl rfl) ⟨fun _ _ h => absurd h (Nat.not_lt_zero _), rfl⟩ ?_ ?_
 ·rintro i v bs hv ⟨hpre, rfl⟩
  rw [List.getElem?_map] at hv
  obtain ⟨x, hx, rfl⟩ := Option.map_eq_some_iff.1 hv
  simp only [go_sem, contS_seq, simprocAttr]
  refine (dns_Label x).callW (enters_of Tryz.func94 rfl rfl) _ rfl rfl ?_
  rintro d rfl
  simp only [go_sem, contS_seq, simprocAttr]
  refine Gif.mk (fun hl => ?_) (fun hl => ?_)
  ·refine fun j y hj hy => ?_
   rcases Nat.lt_or_ge j i with h' | h'
   ·exact hpre j y h' hy
   ·obtain rfl : j = i := by omega
    rw [hx] at hy; cases hy; exact hl
  ·simp only [retK, iterK, resD, resA, AOp.ex, St.ev, retL, oneD, simprocAttr, ret_zmldt]
   refine ⟨_, rfl, rfl, congrArg bln ?_⟩
   have : (splitB 46 s.size s).all label = false := List.all_eq_false.2 ⟨x, List.mem_of_getElem? hx, by simp [hl]⟩
   simp [dname, this]
 ·rintro bs ⟨hall, rfl⟩
  simp only [go_sem, contS_seq, simprocAttr]
  simp only [retK, iterK, resD, resA, AOp.ex, St.ev, retL, oneD, simprocAttr, ret_zmldt]
  refine ⟨_, rfl, rfl, congrArg bln ?_⟩
  have : (splitB 46 s.size s).all label = true := List.all_eq_true.2 fun x hx => by
   obtain ⟨j, hj⟩ := List.getElem?_of_mem hx
   exact hall j x (by have := (List.getElem?_eq_some_iff.1 hj).1; simpa using this) hj
  simp [dname, this, h60]


def hasPrefix (s p : ByteArray) : Bool := decide (p.size ≤ s.size) && decide (s.extract 0 p.size = p)
def hasSuffix (s p : ByteArray) : Bool := decide (p.size ≤ s.size) && decide (s.extract (s.size - p.size) s.size = p)

theorem stringslite_HasPrefix (s p : ByteArray) : Pure Tryz.prog 254 [str s, str p] (fun d => d = bln (hasPrefix s p)) := by
 refine pure_of_run follows an_zntfc Tryz.func254 rfl ok_zntfc.1 ok_zntfc.2 (by simp [Tryz.ntmps254]) ?_
 rw [run_start]
 by_cases h : p.size ≤ s.size
 ·have h1 : ((p.size : Int) ≤ (s.size : Int)) = True := by simp; omega
  have h2 : (p.size ≤ s.size) = True := by simp [h]
  simp only [ac_zntfc, go_sem, contS_seq, simprocAttr, h1, h2]
  simp only [retK, resD, retL, oneD, simprocAttr, Tryz.results254]
  exact ⟨_, rfl, rfl, congrArg bln (by simp [hasPrefix, h])⟩
 ·have h1 : ((p.size : Int) ≤ (s.size : Int)) = False := by simp; omega
  simp only [ac_zntfc, go_sem, contS_seq, simprocAttr, h1]
  simp only [retK, resD, retL, oneD, simprocAttr, Tryz.results254]
  exact ⟨_, rfl, rfl, congrArg bln (by simp [hasPrefix, h])⟩

theorem stringslite_HasSuffix (s p : ByteArray) (hs : s.size ≤ 1000000) : Pure Tryz.prog 290 [str s, str p] (fun d => d = bln (hasSuffix s p)) := by
 refine pure_of_run follows an_z30tk Tryz.func290 rfl ok_z30tk.1 ok_z30tk.2 (by simp [Tryz.ntmps290]) ?_
 rw [run_start]
 by_cases h : p.size ≤ s.size
 ·have h1 : ((p.size : Int) ≤ (s.size : Int)) = True := by simp; omega
  have h2 : (s.size - p.size ≤ s.size) = True := by simp
  have h3 : IntKind.i64.wrap ((s.size : Int) - (p.size : Int)) = ((s.size - p.size : Nat) : Int) := by rw [IntWalk.i64_in _ (by omega)]; omega
  simp only [ac_z30tk, go_sem, contS_seq, simprocAttr, h1, h2, h3]
  simp only [retK, resD, retL, oneD, simprocAttr, Tryz.results290]
  exact ⟨_, rfl, rfl, congrArg bln (by simp [hasSuffix, h])⟩
 ·have h1 : ((p.size : Int) ≤ (s.size : Int)) = False := by simp; omega
  simp only [ac_z30tk, go_sem, contS_seq, simprocAttr, h1]
  simp only [retK, resD, retL, oneD, simprocAttr, Tryz.results290]
  exact ⟨_, rfl, rfl, congrArg bln (by simp [hasSuffix, h])⟩

theorem strings_HasPrefix (s p : ByteArray) : Pure Tryz.prog 281 [str s, str p] (fun d => d = bln (hasPrefix s p)) := by
 refine pure_of_run follows an_zc2tl Tryz.func281 rfl ok_zc2tl.1 ok_zc2tl.2 (by simp [Tryz.ntmps281]) ?_
 rw [run_start]
 simp only [ac_zc2tl, go_sem, contS_seq, simprocAttr]
 (repeat' (first | (refine GifP.mk (fun _ => ?_) (fun _ => ?_)) | (refine Gif.mk (fun _ => ?_) (fun _ => ?_)) | (refine (stringslite_HasPrefix _ _).callW (enters_of Tryz.func254 rfl rfl) _ rfl rfl ?_; rintro _ rfl; try simp only [go_sem, contS_seq, simprocAttr]))) <;> (simp only [retK, resD, retL, oneD, simprocAttr, Tryz.results281]; exact ⟨_, rfl, rfl, congrArg bln (by first | rfl | (rw [Bool.eq_iff_iff]; simp only [hasPrefix]; (first | (simp; done) | (simp; omega) | (simp [*]; done) | (simp [*]; omega))) | (simp_all [hasPrefix]; done) | (exfalso; omega))⟩)

theorem strings_HasSuffix (s p : ByteArray) (hs : s.size ≤ 1000000) : Pure Tryz.prog 282 [str s, str p] (fun d => d = bln (hasSuffix s p)) := by
 refine pure_of_run follows an_zq3h5 Tryz.func282 rfl ok_zq3h5.1 ok_zq3h5.2 (by simp [Tryz.ntmps282]) ?_
 rw [run_start]
 simp only [ac_zq3h5, go_sem, contS_seq, simprocAttr]
 (repeat' (first | (refine GifP.mk (fun _ => ?_) (fun _ => ?_)) | (refine Gif.mk (fun _ => ?_) (fun _ => ?_)) | (refine (stringslite_HasSuffix _ _ hs).callW (enters_of Tryz.func290 rfl rfl) _ rfl rfl ?_; rintro _ rfl; try simp only [go_sem, contS_seq, simprocAttr]))) <;> (simp only [retK, resD, retL, oneD, simprocAttr, Tryz.results282]; exact ⟨_, rfl, rfl, congrArg bln (by first | rfl | (rw [Bool.eq_iff_iff]; simp only [hasSuffix]; (first | (simp; done) | (simp; omega) | (simp [*]; done) | (simp [*]; omega))) | (simp_all [hasSuffix]; done) | (exfalso; omega))⟩)

def cutPrefix (s p : ByteArray) : ByteArray := if hasPrefix s p then s.extract p.size s.size else s

theorem stringslite_CutPrefix (s p : ByteArray) : Pure Tryz.prog 220 [str s, str p] (fun d => d = .tup [str (cutPrefix s p), bln (hasPrefix s p)]) := by
 refine pure_of_run follows an_zd73u Tryz.func220 rfl ok_zd73u.1 ok_zd73u.2 (by simp [Tryz.ntmps220]) ?_
 rw [run_start]
 simp only [ac_zd73u, go_sem, contS_seq, simprocAttr]
 refine (stringslite_HasPrefix s p).callW (enters_of Tryz.func254 rfl rfl) _ rfl rfl ?_
 rintro d rfl
 simp only [go_sem, contS_seq, simprocAttr]
 refine Gif.mk (fun h => ?_) (fun h => ?_)
 ·have h1 : p.size ≤ s.size := by simp only [hasPrefix, Bool.and_eq_true, decide_eq_true_eq] at h; exact h.1
  have h2 : (p.size ≤ s.size) = True := by simp [h1]
  simp only [go_sem, contS_seq, simprocAttr, h2]
  simp only [retK, resD, retL, oneD, simprocAttr, Tryz.results220]
  exact ⟨_, rfl, rfl, by simp [cutPrefix, h, D.pub, D.pubs]⟩
 ·simp only [retK, resD, retL, oneD, simprocAttr, Tryz.results220]
  exact ⟨_, rfl, rfl, by simp [cutPrefix, h, D.pub, D.pubs]⟩

theorem strings_CutPrefix (s p : ByteArray) : Pure Tryz.prog 188 [str s, str p] (fun d => d = .tup [str (cutPrefix s p), bln (hasPrefix s p)]) := by
 refine pure_of_run follows an_zgqff Tryz.func188 rfl ok_zgqff.1 ok_zgqff.2 (by simp [Tryz.ntmps188]) ?_
 rw [run_start]
 simp only [ac_zgqff, go_sem, contS_seq, simprocAttr]
 refine (stringslite_CutPrefix s p).callW (enters_of Tryz.func220 rfl rfl) _ rfl rfl ?_
 rintro d rfl
 simp only [go_sem, contS_seq, simprocAttr]
 simp only [retK, resD, retL, oneD, simprocAttr, Tryz.results188]
 exact ⟨_, rfl, rfl, rfl⟩

def hostMay (p : ByteArray) : Bool := decide (p = ⟨#[]⟩) || (decide (p.size ≤ 60) && dname (cutPrefix p ⟨#[42, 46]⟩) && (hasPrefix p ⟨#[42, 46]⟩ || decide (cutPrefix p ⟨#[42, 46]⟩ = p)))

set_option maxRecDepth 100000 in
theorem host_May (p : ByteArray) : Pure Tryz.prog 139 [str p] (fun d => d = bln (hostMay p)) := by
 refine pure_of_run follows an_z2osy Tryz.func139 rfl ok_z2osy.1 ok_z2osy.2 (by simp [Tryz.ntmps139]) ?_
 rw [run_start]
 simp only [ac_z2osy, go_sem, contS_seq, simprocAttr]
 (repeat' (first | (refine GifP.mk (fun _ => ?_) (fun _ => ?_)) | (refine Gif.mk (fun _ => ?_) (fun _ => ?_)) | ((first | refine (strings_CutPrefix _ _).callW (enters_of Tryz.func188 rfl rfl) _ rfl rfl ?_ | refine (dns_Name _).callW (enters_of Tryz.func93 rfl rfl) _ rfl rfl ?_); rintro _ rfl; try simp only [go_sem, contS_seq, simprocAttr]))) <;> (simp only [retK, resD, retL, oneD, simprocAttr, Tryz.results139]; exact ⟨_, rfl, rfl, congrArg bln (by first | rfl | (rw [Bool.eq_iff_iff]; simp only [hostMay]; (first | (simp; done) | (simp; omega) | (simp [*]; done) | (simp [*]; omega))) | (simp_all [hostMay]; done) | (exfalso; omega))⟩)

def labValue (s : ByteArray) : Bool := decide (s = ⟨#[]⟩) || label s

theorem label_value (s : ByteArray) : Pure Tryz.prog 174 [str s] (fun d => d = bln (labValue s)) := by
 refine pure_of_run follows an_ziqey Tryz.func174 rfl ok_ziqey.1 ok_ziqey.2 (by simp [Tryz.ntmps174]) ?_
 rw [run_start]
 simp only [ac_ziqey, go_sem, contS_seq, simprocAttr]
 (repeat' (first | (refine GifP.mk (fun _ => ?_) (fun _ => ?_)) | (refine Gif.mk (fun _ => ?_) (fun _ => ?_)) | (refine (dns_Label _).callW (enters_of Tryz.func94 rfl rfl) _ rfl rfl ?_; rintro _ rfl; try simp only [go_sem, contS_seq, simprocAttr]))) <;> (simp only [retK, resD, retL, oneD, simprocAttr, Tryz.results174]; exact ⟨_, rfl, rfl, congrArg bln (by first | rfl | (rw [Bool.eq_iff_iff]; simp only [labValue]; (first | (simp; done) | (simp; omega) | (simp [*]; done) | (simp [*]; omega))) | (simp_all [labValue]; done) | (exfalso; omega))⟩)

theorem bytes_get (s : ByteArray) (i : Nat) : s[i]? = s.data.toList[i]? := by
 by_cases h : i < s.size
 ·rw [getElem?_pos s i h, getElem?_pos s.data.toList i (by rw [size_list]; exact h)]; rfl
 ·rw [getElem?_neg s i h, getElem?_neg s.data.toList i (by rw [size_list]; exact h)]

theorem byte_at {s : ByteArray} {i : Nat} (h : i < s.size) : ∃ b, s[i]? = some b ∧ s.data.toList.drop i = b :: s.data.toList.drop (i + 1) := by
 obtain ⟨b, hb⟩ := at_byte h
 exact ⟨b, hb, drop_at (by rw [← bytes_get]; exact hb)⟩

theorem byte_end {s : ByteArray} {i : Nat} (h : ¬ i < s.size) : s.data.toList.drop i = [] := List.drop_eq_nil_of_le (by rw [size_list]; omega)

theorem i64_succ {i : Nat} (h : i < 1000000000) : IntKind.i64.wrap ((i : Int) + 1) = ((i + 1 : Nat) : Int) := by rw [IntWalk.i64_in _ (by omega)]; omega

def runeAll (p : Int → Bool) (s : ByteArray) : Nat → Nat → Bool
 | 0, _ => true
 | f + 1, pos => if pos < s.size then p (Utf8.decode s pos).1 && runeAll p s f (pos + (Utf8.decode s pos).2) else true

theorem runeAll_end {p : Int → Bool} {s : ByteArray} {f pos : Nat} (h : ¬ pos < s.size) : runeAll p s f pos = true := by cases f <;> simp [runeAll, h]

def pathRune (c : Int) : Bool := decide (33 ≤ c) && decide (c ≤ 126) && !decide (c = 63) && !decide (c = 35)

def pathIs (s : ByteArray) : Bool := runeAll pathRune s s.size 0 && hasPrefix s ⟨#[47]⟩ && decide (s.size ≤ 60)

set_option maxRecDepth 100000 in
theorem path_Is (s : ByteArray) : Pure Tryz.prog 258 [str s] (fun d => d = bln (pathIs s)) := by
 refine pure_of_run follows an_z6j2 Tryz.func258 rfl ok_z6j2.1 ok_z6j2.2 (by simp [Tryz.ntmps258]) ?_
 rw [run_start]
 simp only [ac_z6j2, go_sem, contS_seq, simprocAttr]
 refine loopS (fun k st => ∃ pos : Nat, s.size ≤ pos + k ∧ runeAll pathRune s k pos = runeAll pathRune s s.size 0 ∧
  st = ⟨[(0, str s), (6, .ptr 6 0)], [], [(6, .sit s pos)], .no⟩) s.size _ (Weak.refl _ _) ⟨0, by omega, rfl, rfl⟩ ?_
 rintro k st ⟨pos, hk, hr, rfl⟩
 by_cases hlt : pos < s.size
 ·obtain ⟨k, rfl⟩ : ∃ m, k = m + 1 := ⟨k - 1, by omega⟩
  have hw := width_pos s pos
  simp only [runeAll, hlt, if_true] at hr
  simp only [go_sem, contS_seq, simprocAttr, hlt]
  obtain ⟨c, hc⟩ : ∃ c : Int, ((Utf8.decode s pos).1 : Int) = c := ⟨_, rfl⟩
  rw [hc] at hr ⊢
  have bad : ∀ (h : pathRune c = false), pathIs s = false := fun h => by
   rw [h] at hr
   simp only [Bool.false_and] at hr
   simp [pathIs, ← hr]
  repeat' (first | refine GifP.mk (fun _ => ?_) (fun _ => ?_) | refine Gif.mk (fun _ => ?_) (fun _ => ?_))
  iterate 4
   ·simp only [retK, iterK, resD, retL, oneD, simprocAttr, Tryz.results258]
    exact ⟨_, rfl, rfl, congrArg bln (bad (by simp [pathRune]; omega)).symm⟩
  ·have hg : pathRune c = true := by simp [pathRune]; omega
   rw [hg, Bool.true_and] at hr
   refine ⟨k, _, ?_, ?_, pos + (Utf8.decode s pos).2, ?_, hr, rfl⟩
   ·omega
   ·exact lessA
   ·omega
 ·simp only [go_sem, contS_seq, simprocAttr, hlt]
  rw [runeAll_end hlt] at hr
  have hr' := hr.symm
  clear hr
  refine (strings_HasPrefix s _).callW (enters_of Tryz.func281 rfl rfl) _ rfl rfl ?_
  rintro d rfl
  simp only [go_sem, contS_seq, simprocAttr]
  repeat' (first | refine GifP.mk (fun _ => ?_) (fun _ => ?_) | refine Gif.mk (fun _ => ?_) (fun _ => ?_))
  all_goals
   simp only [retK, iterK, resD, retL, oneD, simprocAttr, Tryz.results258]
   exact ⟨_, rfl, rfl, congrArg bln (by first | rfl | (rw [Bool.eq_iff_iff]; simp only [pathIs, hr']; (first | (simp; done) | (simp; omega) | (simp [*]; done) | (simp [*]; omega))) | (simp_all [pathIs, hr']; done) | (exfalso; omega))⟩


def low (c : Int) : Int := IntKind.u8.wrap (BitVec.ofInt IntKind.u8.bits c ||| BitVec.ofInt IntKind.u8.bits 32).toNat

def foldO (c : Int) : Int := if 65 ≤ c ∧ c ≤ 90 then low c else c

structure FoldW (w : World) (s : ByteArray) (i : Nat) (wr : World) : Prop where
 below : Below w.heap.size w wr
 row : ∃ cs z, wr.heap[w.heap.size]? = some (.cells cs 5 z) ∧ s.size ≤ cs.size ∧ cs.size ≤ z.1 ∧ ∀ (j : Nat) b, s[j]? = some b → cs[j]? = some (.int .u8 (if j < i then foldO b.toNat else b.toNat))

theorem FoldW.next {w : World} {s : ByteArray} {i : Nat} {b : UInt8} (hb : s[i]? = some b) {cs : Array Value} {z : Nat × Nat} (h2 : s.size ≤ cs.size) (h3 : cs.size ≤ z.1)
 (h4 : ∀ (j : Nat) b, s[j]? = some b → cs[j]? = some (.int .u8 (if j < i then foldO b.toNat else b.toNat))) (cs' : Array Value) (W : World) (q1 : W.heap[w.heap.size]? = some (.cells cs' 5 z)) (q2 : cs'.size = cs.size) (q3 : Below w.heap.size w W)
 (q4 : ∀ j, j ≠ i → cs'[j]? = cs[j]?) (q5 : cs'[i]? = some (.int .u8 (foldO b.toNat))) : FoldW w s (i + 1) W :=
 ⟨q3, cs', z, q1, by omega, by omega, fun j b' hj => by
  by_cases e : j = i
  ·subst e
   rw [hb] at hj; cases hj
   rw [if_pos (by omega)]; exact q5
  ·rw [q4 j e, h4 j b' hj]
   by_cases e2 : j < i
   ·rw [if_pos e2, if_pos (by omega)]
   ·rw [if_neg e2, if_neg (by omega)]⟩

def fold (s : ByteArray) : ByteArray := octStr (s.data.toList.map fun b => foldO b.toNat)

set_option maxHeartbeats 1000000 in
theorem run_Fold (s : ByteArray) (hs : s.size ≤ 1000000) (w : World) :
 Calls Tryz.prog 263 #[.string s] w fun e w' => e = .returned (.string (fold s)) ∧ Below w.heap.size w w' := by
 have hconv := fun w' => Lib.run_convert_string_bytes (P := Tryz.prog) w' 9 185 5 s Tryz.underlying9 Tryz.underlying185 Tryz.underlying5
 go_enter Tryz.func263, Tryz.ntmps263
 go_wp2
 go_loopg [10] s.size (fun k c wr => ∃ i : Nat, k = s.size - i ∧ i ≤ s.size ∧ c = .int .i64 i ∧ FoldW w s i wr)
 case atStart =>
  have hcs : s.size ≤ (Lib.bytesCells w 5 s).size := by simp [Lib.bytesCells]
  refine ⟨0, rfl, Nat.zero_le _, rfl, ?_, _, _, Lib.bytesWorld_at_new w _ s, hcs, Nat.le_refl _, fun j b hb => ?_⟩
  ·exact ⟨rfl, rfl, rfl, by rw [Lib.bytesWorld_size]; omega, fun k hk => Lib.bytesWorld_at_old w _ s k hk⟩
  ·rw [if_neg (Nat.not_lt_zero j)]
   have hj : j < s.size := (List.getElem?_eq_some_iff.1 ((bytes_get s j).symm.trans hb)).1
   have hb' : s.data[j]? = some b := by rw [← Array.getElem?_toList, ← bytes_get]; exact hb
   simp only [Lib.bytesCells]
   rw [Array.getElem?_append_left (by simpa using hj), Array.getElem?_map, hb']
   rfl
 case round =>
  obtain ⟨i, hk, hi, rfl, hf⟩ := hrel
  obtain ⟨hbel, cs, z, h1, h2, h3, h4⟩ := hf
  by_cases hlt : i < s.size
  ·obtain ⟨b, hb⟩ := at_byte hlt
   have hcs := h4 i b hb
   rw [if_neg (Nat.lt_irrefl i)] at hcs
   have hcell : wr.cell? ⟨w.heap.size, i, none⟩ = some (.int .u8 b.toNat) := by simp [World.cell?, h1, hcs]
   have hfz : wr.frozen? ⟨w.heap.size, i, none⟩ = false := by
    simp [World.frozen?, h1]; omega
   have hlt' : (i : Int) < (s.size : Int) := by omega
   go_wp2
   ·have hset : (wr.setCell ⟨w.heap.size, i, none⟩ (.int .u8 (bits .or .u8 (b.toNat : Int) 32))).heap[w.heap.size]? = some (.cells (cs.setIfInBounds i (.int .u8 (bits .or .u8 (b.toNat : Int) 32))) 5 z) := by
     simp only [World.setCell, Array.getElem?_modify, if_true, h1, Option.map_some]
     rfl
    go_roundg (s.size - (i + 1))
    case measure => omega
    case rel =>
     refine ⟨i + 1, rfl, by omega, by simp, FoldW.next hb h2 h3 h4 _ _ hset (by simp) (hbel.setCell (Nat.le_refl _) _) (fun j hj => by simp [Array.getElem?_setIfInBounds, Ne.symm hj]) ?_⟩
     have hic : i < cs.size := by omega
     rw [Array.getElem?_setIfInBounds, if_pos rfl, if_pos hic]
     rw [foldO, if_pos (by omega)]
     rfl
   ·go_roundg (s.size - (i + 1))
    case measure => omega
    case rel => exact ⟨i + 1, rfl, by omega, by simp, FoldW.next hb h2 h3 h4 _ _ h1 rfl hbel (fun _ _ => rfl) (by rw [hcs, foldO, if_neg (by omega)])⟩
   ·go_roundg (s.size - (i + 1))
    case measure => omega
    case rel => exact ⟨i + 1, rfl, by omega, by simp, FoldW.next hb h2 h3 h4 _ _ h1 rfl hbel (fun _ _ => rfl) (by rw [hcs, foldO, if_neg (by omega)])⟩
  ·have hi2 : i = s.size := by omega
   subst hi2
   have hload := run_loadCells_list (P := Tryz.prog) (w := wr) (⟨w.heap.size, 0, none⟩ : Addr) ((s.data.toList.map fun b => foldO b.toNat).map (Value.int .u8)) (fun j v hj => by
    rw [List.getElem?_map, List.getElem?_map] at hj
    cases hb : s.data.toList[j]? with
    | none => rw [hb] at hj; cases hj
    | some b =>
      rw [hb] at hj
      cases hj
      have hjs : j < s.size := (List.getElem?_eq_some_iff.1 hb).1
      have := h4 j b (by rw [bytes_get]; exact hb)
      rw [if_pos hjs] at this
      rw [add_off, Nat.zero_add]
      simp [World.cell?, h1, this])
   have hlen : ((s.data.toList.map fun b => foldO b.toNat).map (Value.int .u8)).length = s.size := by simp [size_list]
   rw [hlen] at hload
   have hback := run_bytesToString wr ⟨w.heap.size, 0, none⟩ s.size (grownCap w s.size 0 5) _ hload
   have hconv2 := (run_convert_bytes_string (P := Tryz.prog) wr 185 9 5 (some ⟨w.heap.size, 0, none⟩) s.size (grownCap w s.size 0 5) Tryz.underlying185 Tryz.underlying5 Tryz.underlying9).trans hback
   have hlt' : ¬ (s.size : Int) < (s.size : Int) := by omega
   go_wp2
   go_ret
   exact ⟨rfl, hbel⟩

theorem dns_Fold (s : ByteArray) (hs : s.size ≤ 1000000) : Pure Tryz.prog 263 [str s] (fun d => d = str (fold s)) := by
 intro Fz w us hlt hr
 simp only [Reps] at hr
 obtain ⟨x, r, rfl, hx, rfl⟩ := hr
 obtain rfl := rep_raw_inv hx
 refine (run_Fold s hs w).mono ?_
 rintro e w' ⟨rfl, hb⟩
 exact ⟨_, _, Fz, rfl, rfl, rfl, hb, fun b o hf => ⟨hf, hb.cell (hlt b o hf)⟩, fun b o hf => Nat.lt_of_lt_of_le (hlt b o hf) hb.size, fun _ _ h _ => h, by simp only [Rep]; exact .raw _ rfl⟩


theorem pathIs_size {s : ByteArray} (h : pathIs s = true) : s.size ≤ 1000000 := by
 simp only [pathIs, Bool.and_eq_true, decide_eq_true_eq] at h
 omega

def pathAbove (s : ByteArray) : Bool := pathIs s && (decide (s = ⟨#[47]⟩) || !hasSuffix s ⟨#[47]⟩)

theorem path_above (s : ByteArray) : Pure Tryz.prog 259 [str s] (fun d => d = bln (pathAbove s)) := by
 refine pure_of_run follows an_zgeto Tryz.func259 rfl ok_zgeto.1 ok_zgeto.2 (by simp [Tryz.ntmps259]) ?_
 rw [run_start]
 simp only [ac_zgeto, go_sem, contS_seq, simprocAttr]
 (repeat' (first | (refine GifP.mk (fun _ => ?_) (fun _ => ?_)) | (refine Gif.mk (fun _ => ?_) (fun _ => ?_)) | ((first | refine (path_Is _).callW (enters_of Tryz.func258 rfl rfl) _ rfl rfl ?_ | refine (strings_HasSuffix _ _ (pathIs_size (by assumption))).callW (enters_of Tryz.func282 rfl rfl) _ rfl rfl ?_); rintro _ rfl; try simp only [go_sem, contS_seq, simprocAttr]))) <;> (simp only [retK, resD, retL, oneD, simprocAttr, Tryz.results259]; exact ⟨_, rfl, rfl, congrArg bln (by first | rfl | (rw [Bool.eq_iff_iff]; simp only [pathAbove]; (first | (simp; done) | (simp; omega) | (simp [*]; done) | (simp [*]; omega))) | (simp_all [pathAbove]; done) | (exfalso; omega))⟩)

def pathMay (k : Int) (v : ByteArray) : Bool := (decide (k = 1) && pathIs v) || (decide (k = 2) && pathAbove v)

theorem path_May (k : Int) (v : ByteArray) : Pure Tryz.prog 227 [.agg [int k, str v]] (fun d => d = bln (pathMay k v)) := by
 refine pure_of_run follows an_z2uwa Tryz.func227 rfl ok_z2uwa.1 ok_z2uwa.2 (by simp [Tryz.ntmps227]) ?_
 rw [run_start]
 simp only [ac_z2uwa, go_sem, contS_seq, simprocAttr]
 (repeat' (first | (refine GifP.mk (fun _ => ?_) (fun _ => ?_)) | (refine Gif.mk (fun _ => ?_) (fun _ => ?_)) | ((first | refine (path_Is _).callW (enters_of Tryz.func258 rfl rfl) _ rfl rfl ?_ | refine (path_above _).callW (enters_of Tryz.func259 rfl rfl) _ rfl rfl ?_); rintro _ rfl; try simp only [go_sem, contS_seq, simprocAttr]))) <;> (simp only [retK, resD, retL, oneD, simprocAttr, Tryz.results227]; exact ⟨_, rfl, rfl, congrArg bln (by first | rfl | (rw [Bool.eq_iff_iff]; simp only [pathMay]; (first | (simp; done) | (simp; omega) | (simp [*]; done) | (simp [*]; omega))) | (simp_all [pathMay]; done) | (exfalso; omega))⟩)

def methodRune (c : Int) : Bool := decide (65 ≤ c) && decide (c ≤ 90)

theorem rule_Method_1 (c : Int) : Pure Tryz.prog 260 [i32 c] (fun d => d = bln (!methodRune c)) := by
 refine pure_of_run follows an_zluy0 Tryz.func260 rfl ok_zluy0.1 ok_zluy0.2 (by simp [Tryz.ntmps260]) ?_
 rw [run_start]
 simp only [ac_zluy0, go_sem, contS_seq, simprocAttr]
 (repeat' (first | (refine GifP.mk (fun _ => ?_) (fun _ => ?_)) | (refine Gif.mk (fun _ => ?_) (fun _ => ?_)))) <;> (simp only [retK, resD, retL, oneD, simprocAttr, Tryz.results260]; exact ⟨_, rfl, rfl, congrArg bln (by first | rfl | (rw [Bool.eq_iff_iff]; simp only [methodRune]; (first | (simp; done) | (simp; omega) | (simp [*]; done) | (simp [*]; omega))) | (simp_all [methodRune]; done) | (exfalso; omega))⟩)

def method (s : ByteArray) : Bool := !decide (s = ⟨#[]⟩) && decide (s.size ≤ 10) && decide (runeIdx (fun c => !methodRune c) s s.size 0 < 0)

theorem rule_Method (s : ByteArray) : Pure Tryz.prog 228 [str s] (fun d => d = bln (method s)) := by
 refine pure_of_run follows an_zjt8m Tryz.func228 rfl ok_zjt8m.1 ok_zjt8m.2 (by simp [Tryz.ntmps228]) ?_
 rw [run_start]
 simp only [ac_zjt8m, go_sem, contS_seq, simprocAttr]
 (repeat' (first | (refine GifP.mk (fun _ => ?_) (fun _ => ?_)) | (refine Gif.mk (fun _ => ?_) (fun _ => ?_)) | (refine (strings_IndexFunc _ _ (enters_of Tryz.func260 rfl rfl) rule_Method_1 _).callW (enters_of Tryz.func151 rfl rfl) _ rfl rfl ?_; rintro _ rfl; try simp only [go_sem, contS_seq, simprocAttr]))) <;> (simp only [retK, resD, retL, oneD, simprocAttr, Tryz.results228]; exact ⟨_, rfl, rfl, congrArg bln (by first | rfl | (rw [Bool.eq_iff_iff]; simp only [method]; (first | (simp; done) | (simp; omega) | (simp [*]; done) | (simp [*]; omega))) | (simp_all [method]; done) | (exfalso; omega))⟩)

def pairMay (p : APair) : Bool := !decide (p.name = ⟨#[]⟩) && decide (p.name.size ≤ 40) && decide (p.val.size ≤ 40)

def queryMay (l : List APair) : Bool := l.all pairMay && decide (l.length ≤ 20)

set_option maxRecDepth 100000 in
theorem query_May (l : List APair) (hl : l.length ≤ 1000000) : Pure Tryz.prog 232 [.pd (.slice (rows APair.pd l))] (fun d => d = bln (queryMay l)) := by
 refine pure_of_run follows an_zr0tf Tryz.func232 rfl ok_zr0tf.1 ok_zr0tf.2 (by simp [Tryz.ntmps232]) ?_
 rw [run_start]
 simp only [ac_zr0tf, go_sem, contS_seq, simprocAttr, rows_len]
 refine loopS (fun k st => ∃ i : Nat, k = l.length - i ∧ i ≤ l.length ∧ (l.drop i).all pairMay = l.all pairMay ∧
  st = ⟨[(0, .pd (.slice (rows APair.pd l))), (5, .pd (.slice (rows APair.pd l))), (6, int l.length), (7, int i)], [], [], .no⟩) l.length _ (Weak.refl _ _) ⟨0, rfl, Nat.zero_le _, rfl, rfl⟩ ?_
 rintro k st ⟨i, rfl, hi, hr, rfl⟩
 by_cases hlt : i < l.length
 ·obtain ⟨x, hx⟩ := at_lt hlt
  have hlt' : ((i : Int) < (l.length : Int)) = True := by simp; omega
  rw [drop_at hx, List.all_cons] at hr
  have bad : pairMay x = false → queryMay l = false := fun h => by
   rw [h, Bool.false_and] at hr
   simp [queryMay, ← hr]
  simp only [go_sem, contS_seq, simprocAttr, hlt', rows_get hx, i64_succ (show i < 1000000000 by omega)]
  repeat' (first | refine GifP.mk (fun _ => ?_) (fun _ => ?_) | refine Gif.mk (fun _ => ?_) (fun _ => ?_))
  iterate 3
   ·simp only [retK, iterK, resD, retL, oneD, simprocAttr, Tryz.results232]
    exact ⟨_, rfl, rfl, congrArg bln (bad (by simp [pairMay, *]; try omega)).symm⟩
  ·have hg : pairMay x = true := by simp [pairMay, *]; omega
   rw [hg, Bool.true_and] at hr
   refine ⟨l.length - (i + 1), _, ?_, ?_, i + 1, rfl, ?_, hr, rfl⟩
   ·omega
   ·exact lessA
   ·omega
 ·have hlt' : ((i : Int) < (l.length : Int)) = False := by simp; omega
  rw [List.drop_eq_nil_of_le (by omega)] at hr
  have hr' := hr.symm
  rw [List.all_nil] at hr'
  simp only [go_sem, contS_seq, simprocAttr, rows_len, hlt']
  repeat' (first | refine GifP.mk (fun _ => ?_) (fun _ => ?_) | refine Gif.mk (fun _ => ?_) (fun _ => ?_))
  all_goals
   simp only [retK, iterK, resD, retL, oneD, simprocAttr, Tryz.results232]
   exact ⟨_, rfl, rfl, congrArg bln (by first | rfl | (rw [Bool.eq_iff_iff]; simp only [queryMay, hr']; (first | (simp; done) | (simp; omega) | (simp [*]; done) | (simp [*]; omega))) | (simp_all [queryMay, hr']; done) | (exfalso; omega))⟩

def marks : ByteArray := ⟨#[33, 35, 36, 37, 38, 39, 42, 43, 45, 46, 94, 95, 96, 124, 126]⟩

def tokenOct (b : UInt8) : Bool := (decide (97 ≤ low b.toNat) && decide (low b.toNat ≤ 122)) || (decide (48 ≤ b.toNat) && decide (b.toNat ≤ 57)) || decide (0 ≤ Lib.indexByte marks.data.toList b)

def token (s : ByteArray) : Bool := s.data.toList.all tokenOct && !decide (s = ⟨#[]⟩) && decide (s.size ≤ 40)

theorem toNat_u8 (b : UInt8) : ((b.toNat : Int)).toNat.toUInt8 = b := by simp

theorem pairs_Token (s : ByteArray) (hs : s.size ≤ 1000000) : Pure Tryz.prog 225 [str s] (fun d => d = bln (token s)) := by
 refine pure_of_run follows an_zwtth Tryz.func225 rfl ok_zwtth.1 ok_zwtth.2 (by simp [Tryz.ntmps225]) ?_
 rw [run_start]
 simp only [ac_zwtth, go_sem, contS_seq, simprocAttr, rows_len]
 refine loopS (fun k st => ∃ i : Nat, k = s.size - i ∧ i ≤ s.size ∧ (s.data.toList.drop i).all tokenOct = s.data.toList.all tokenOct ∧
  st = ⟨[(0, str s), (6, int s.size), (7, int i)], [], [], .no⟩) s.size _ (Weak.refl _ _) ⟨0, rfl, Nat.zero_le _, rfl, rfl⟩ ?_
 rintro k st ⟨i, rfl, hi, hr, rfl⟩
 by_cases hlt : i < s.size
 ·obtain ⟨b, hb, hd⟩ := byte_at hlt
  have hlt' : ((i : Int) < (s.size : Int)) = True := by simp; omega
  rw [hd, List.all_cons] at hr
  have bad : tokenOct b = false → token s = false := fun h => by
   rw [h, Bool.false_and] at hr
   simp only [token, ← hr, Bool.false_and]
  have hlow : IntKind.u8.wrap (BitVec.ofInt IntKind.u8.bits (b.toNat : Int) ||| BitVec.ofInt IntKind.u8.bits 32).toNat = low b.toNat := rfl
  have hw := i64_succ (show i < 1000000000 by omega)
  simp only [go_sem, contS_seq, simprocAttr, hlt', hb, hw, ↓hlow]
  have good : tokenOct b = true → ∀ st, Weak Tryz.prog st ⟨[(0, str s), (6, int s.size), (7, int (i + 1 : Nat))], [], [], .no⟩ → Round Tryz.prog (fun k st => ∃ i : Nat, k = s.size - i ∧ i ≤ s.size ∧ (s.data.toList.drop i).all tokenOct = s.data.toList.all tokenOct ∧
   st = ⟨[(0, str s), (6, int s.size), (7, int i)], [], [], .no⟩) (s.size - i) st := fun h st hw => by
   rw [h, Bool.true_and] at hr
   exact ⟨s.size - (i + 1), _, by omega, hw, i + 1, rfl, by omega, hr, rfl⟩
  repeat' (first | refine GifP.mk (fun _ => ?_) (fun _ => ?_) | refine Gif.mk (fun _ => ?_) (fun _ => ?_) | (refine (strings_IndexByte _ _).callW (enters_of Tryz.func256 rfl rfl) _ rfl rfl ?_; rintro _ rfl; rw [toNat_u8]; simp only [go_sem, contS_seq, simprocAttr, hw]))
  all_goals first
   | (refine good (by simp [tokenOct, marks, *]; try omega) _ ?_; exact lessA)
   | (simp only [retK, resD, retL, oneD, simprocAttr, Tryz.results225]
      exact ⟨_, rfl, rfl, congrArg bln (bad (by simp [tokenOct, marks, *]; try omega)).symm⟩)
 ·have hlt' : ((i : Int) < (s.size : Int)) = False := by simp; omega
  rw [byte_end hlt] at hr
  have hr' := hr.symm
  rw [List.all_nil] at hr'
  simp only [go_sem, contS_seq, simprocAttr, rows_len, hlt']
  repeat' (first | refine GifP.mk (fun _ => ?_) (fun _ => ?_) | refine Gif.mk (fun _ => ?_) (fun _ => ?_))
  all_goals
   simp only [retK, resD, retL, oneD, simprocAttr, Tryz.results225]
   exact ⟨_, rfl, rfl, congrArg bln (by first | rfl | (rw [Bool.eq_iff_iff]; simp only [token, hr']; (first | (simp; done) | (simp; omega) | (simp [*]; done) | (simp [*]; omega))) | (simp_all [token, hr']; done) | (exfalso; omega))⟩

def trimL (c : Int) : Nat → ByteArray → ByteArray
 | 0, s => s
 | f + 1, s => match s[0]? with
   | some b => if (b.toNat : Int) = c then trimL c f (s.extract 1 s.size) else s
   | none => s

def trimR (c : Int) : Nat → ByteArray → ByteArray
 | 0, s => s
 | f + 1, s => match s[s.size - 1]? with
   | some b => if (b.toNat : Int) = c then trimR c f (s.extract 0 (s.size - 1)) else s
   | none => s

theorem byte_none {s : ByteArray} {i : Nat} (h : ¬ i < s.size) : s[i]? = none := by rw [bytes_get]; exact List.getElem?_eq_none (by rw [size_list]; omega)

theorem strings_trimLeftByte (s : ByteArray) (c : Int) : Pure Tryz.prog 274 [str s, u8 c] (fun d => d = str (trimL c s.size s)) := by
 refine pure_of_run follows an_zu0fc Tryz.func274 rfl ok_zu0fc.1 ok_zu0fc.2 (by simp [Tryz.ntmps274]) ?_
 rw [run_start]
 simp only [ac_zu0fc, go_sem, contS_seq, simprocAttr]
 refine loopS (fun k st => ∃ r : ByteArray, r.size ≤ k ∧ trimL c k r = trimL c s.size s ∧
  st = ⟨[(0, str r), (1, u8 c)], [], [], .no⟩) s.size _ (Weak.refl _ _) ⟨s, Nat.le_refl _, rfl, rfl⟩ ?_
 rintro k st ⟨r, hk, hr, rfl⟩
 by_cases hlt : 0 < r.size
 ·obtain ⟨b, hb⟩ := at_byte hlt
  obtain ⟨k, rfl⟩ : ∃ m, k = m + 1 := ⟨k - 1, by omega⟩
  have h1 : ((0 : Int) < (r.size : Int)) = True := eq_true (by omega)
  have h2 : (1 ≤ r.size) = True := by simp; omega
  have h3 : (r.extract 1 r.size).size = r.size - 1 := by simp [ByteArray.size_extract]
  simp only [trimL, hb] at hr
  simp only [go_sem, contS_seq, simprocAttr, h1, hb, h2]
  refine GifP.mk (fun h => ?_) (fun h => ?_)
  ·rw [if_pos h] at hr
   refine ⟨k, _, ?_, ?_, r.extract 1 r.size, ?_, hr, rfl⟩
   ·omega
   ·exact lessA
   ·omega
  ·rw [if_neg h] at hr
   simp only [retK, resD, retL, oneD, simprocAttr, Tryz.results274]
   exact ⟨_, rfl, rfl, congrArg (fun x => str x) hr⟩
 ·have h1 : ((0 : Int) < (r.size : Int)) = False := eq_false (by omega)
  have hn : trimL c k r = r := by
   cases k with
   | zero => rfl
   | succ k => simp only [trimL, byte_none hlt]
  rw [hn] at hr
  simp only [go_sem, contS_seq, simprocAttr, h1]
  simp only [retK, resD, retL, oneD, simprocAttr, Tryz.results274]
  exact ⟨_, rfl, rfl, congrArg (fun x => str x) hr⟩

theorem strings_trimRightByte (s : ByteArray) (c : Int) (hs : s.size ≤ 1000000) : Pure Tryz.prog 275 [str s, u8 c] (fun d => d = str (trimR c s.size s)) := by
 refine pure_of_run follows an_zdteh Tryz.func275 rfl ok_zdteh.1 ok_zdteh.2 (by simp [Tryz.ntmps275]) ?_
 rw [run_start]
 simp only [ac_zdteh, go_sem, contS_seq, simprocAttr]
 refine loopS (fun k st => ∃ r : ByteArray, r.size ≤ k ∧ r.size ≤ 1000000 ∧ trimR c k r = trimR c s.size s ∧
  st = ⟨[(0, str r), (1, u8 c)], [], [], .no⟩) s.size _ (Weak.refl _ _) ⟨s, Nat.le_refl _, hs, rfl, rfl⟩ ?_
 rintro k st ⟨r, hk, hrs, hr, rfl⟩
 by_cases hlt : 0 < r.size
 ·obtain ⟨b, hb⟩ := at_byte (show r.size - 1 < r.size by omega)
  obtain ⟨k, rfl⟩ : ∃ m, k = m + 1 := ⟨k - 1, by omega⟩
  have h1 : ((0 : Int) < (r.size : Int)) = True := eq_true (by omega)
  have h2 : (r.size - 1 ≤ r.size) = True := by simp
  have h3 : (r.extract 0 (r.size - 1)).size = r.size - 1 := by simp [ByteArray.size_extract]
  have hw : IntKind.i64.wrap ((r.size : Int) - 1) = ((r.size - 1 : Nat) : Int) := by rw [IntWalk.i64_in _ (by omega)]; omega
  simp only [trimR, hb] at hr
  simp only [go_sem, contS_seq, simprocAttr, h1, hw, hb, h2]
  refine GifP.mk (fun h => ?_) (fun h => ?_)
  ·rw [if_pos h] at hr
   refine ⟨k, _, ?_, ?_, r.extract 0 (r.size - 1), ?_, ?_, hr, rfl⟩
   ·omega
   ·exact lessA
   ·omega
   ·omega
  ·rw [if_neg h] at hr
   simp only [retK, resD, retL, oneD, simprocAttr, Tryz.results275]
   exact ⟨_, rfl, rfl, congrArg (fun x => str x) hr⟩
 ·have h1 : ((0 : Int) < (r.size : Int)) = False := eq_false (by omega)
  have hn : trimR c k r = r := by
   cases k with
   | zero => rfl
   | succ k => simp only [trimR, byte_none (show ¬ r.size - 1 < r.size by omega)]
  rw [hn] at hr
  simp only [go_sem, contS_seq, simprocAttr, h1]
  simp only [retK, resD, retL, oneD, simprocAttr, Tryz.results275]
  exact ⟨_, rfl, rfl, congrArg (fun x => str x) hr⟩

def trim (s : ByteArray) : ByteArray := trimL 32 (trimR 32 s.size s).size (trimR 32 s.size s)

theorem strings_Trim (s : ByteArray) (hs : s.size ≤ 1000000) : Pure Tryz.prog 257 [str s, str ⟨#[32]⟩] (fun d => d = str (trim s)) := by
 refine pure_of_run follows an_zmas7 Tryz.func257 rfl ok_zmas7.1 ok_zmas7.2 (by simp [Tryz.ntmps257]) ?_
 rw [run_start]
 have h1 : (ByteArray.mk #[32]).size = 1 := rfl
 have h2 : (ByteArray.mk #[32])[0]? = some 32 := rfl
 have h3 : ((1 : Nat) : Int) = 1 := rfl
 have h4 : (ByteArray.mk #[32] = ByteArray.mk #[]) = False := by simp
 have h5 : ((UInt8.toNat 32 : Nat) : Int) = 32 := rfl
 simp only [ac_zmas7, go_sem, contS_seq, simprocAttr, go_sem, h1, h2, h3, h4, h5]
 refine GifP.mk (fun he => ?_) (fun he => ?_)
 ·simp only [retK, resD, retL, oneD, simprocAttr, Tryz.results257]
  refine ⟨_, rfl, rfl, congrArg (fun x => str x) ?_⟩
  subst he; rfl
 ·refine (strings_trimRightByte s 32 hs).callX (enters_of Tryz.func275 rfl rfl) _ rfl rfl ?_
  rintro d rfl
  simp only [go_sem, contS_seq, simprocAttr, go_sem, h1, h2, h5]
  refine (strings_trimLeftByte _ 32).callX (enters_of Tryz.func274 rfl rfl) _ rfl rfl ?_
  rintro d rfl
  simp only [go_sem, contS_seq, simprocAttr, go_sem]
  simp only [retK, resD, retL, oneD, simprocAttr, Tryz.results257]
  exact ⟨_, rfl, rfl, rfl⟩


abbrev idr (bs : List (Nat × List D)) : List (Nat × Nat) := bs.map fun p => (p.1, p.1)
def capD (caps : List (Nat × Nat)) : List D := caps.map fun c => .ptr c.1 c.2

def dnd : List Nat → Bool
 | [] => true
 | a :: l => !l.contains a && dnd l

structure Cl (bs : List (Nat × List D)) (caps : List (Nat × Nat)) : Prop where
 ok : renOK (idr bs) = true
 see : seeBs (idr bs) bs (idr bs) = bs
 cap : D.sees (idr bs) (capD caps) = capD caps
 capf : seeCaps (idr bs) caps = some caps
 nd : dnd (bs.map (·.1)) = true

theorem Cl.of {bs : List (Nat × List D)} {caps : List (Nat × Nat)} (h1 : renOK (idr bs) = true) (h2 : seeBs (idr bs) bs (idr bs) = bs) (h3 : D.sees (idr bs) (capD caps) = capD caps) (h4 : seeCaps (idr bs) caps = some caps) (h5 : dnd (bs.map (·.1)) = true) : Cl bs caps := ⟨h1, h2, h3, h4, h5⟩

theorem Cl.args {bs : List (Nat × List D)} {caps : List (Nat × Nat)} (h : Cl bs caps) {d : D} (hd : D.see (idr bs) d = d) : D.sees (idr bs) (d :: capD caps) = d :: capD caps := by
 rw [D.sees, hd, h.cap]

theorem Cl.two {bs : List (Nat × List D)} {caps : List (Nat × Nat)} (h : Cl bs caps) {x : PD} {g : FuncId} : D.sees (idr bs) [.pd x, .fn g caps] = [.pd x, .fn g caps] := by
 simp only [D.sees, D.see, h.capf]

theorem lessL_of {α : Type} : ∀ {r l : List (Nat × α)}, (∀ p ∈ r, lk l p.1 = some p.2) → lessL r l
 | [], _, _ => trivial
 | _ :: _, _, h => ⟨h _ (List.mem_cons_self ..), lessL_of fun p hp => h p (List.mem_cons_of_mem _ hp)⟩

theorem lk_mem_nd {α : Type} : ∀ {l : List (Nat × α)}, dnd (l.map (·.1)) = true → ∀ p ∈ l, lk l p.1 = some p.2
 | [], _, _, h => by cases h
 | (m, d) :: l, hn, p, h => by
   simp only [List.map_cons, dnd, Bool.and_eq_true, Bool.not_eq_true'] at hn
   rcases List.mem_cons.1 h with rfl | h
   ·simp [lk]
   ·have hne : p.1 ≠ m := fun e => by
     have : (l.map (·.1)).contains m = true := by rw [List.contains_iff_mem]; exact List.mem_map.2 ⟨p, h, e⟩
     rw [hn.1] at this; cases this
    simp only [lk, if_neg hne]
    exact lk_mem_nd hn.2 p h

theorem lessL_refl {α : Type} {l : List (Nat × α)} (h : dnd (l.map (·.1)) = true) : lessL l l := lessL_of (lk_mem_nd h)

theorem Mem.toNfn {P : Program} {w0 : World} {Fz0 : Nat → Nat → Prop} {S : Nat → Prop} {N : Nat} {bs : List (Nat × List D)} {ms : List (Nat × MO)} {g : Gh} {w : World} (m : Mem (.fn P w0 Fz0 S N) bs ms g w) (N' : Nat) : Mem (.fn P w0 Fz0 S N') bs ms g w where
 os := m.os
 tape := m.tape
 output := m.output
 hsz := m.hsz
 old := m.old
 keep := m.keep
 newfz := m.newfz
 fzlt := m.fzlt
 bxs := m.bxs
 mps := m.mps
 bxok := m.bxok
 bxinj := m.bxinj
 tks := m.tks
 tkinj := m.tkinj
 bxtk := m.bxtk
 dfs := m.dfs
 dnd := m.dnd
 bxdf := m.bxdf
 bxdm := m.bxdm

theorem PureB.pure {P : Program} {f : FuncId} {args : List D} {R : D → Prop} (h : PureB P f args [] R) : Pure P f args R := by
 intro Fz w vs hlt hr
 exact h (gh0 Fz) w vs rfl rfl (fun N => (init_SR (P := P) (N := args.length) (Nat.le_refl _) hlt hr).mem.toNfn N) hr

theorem Pure.pureB {P : Program} {f : FuncId} {args : List D} {R : D → Prop} (h : Pure P f args R) (hc : D.closeds args = true) : PureB P f args [] R := by
 intro g0 w vs _ _ hm hr
 exact h g0.Fz w vs (hm 0).fzlt (Reps.close (g := g0) (g' := gh0 g0.Fz) (Ex.refl _ _) hc hr)

def lidx {α : Type} (p : α → Bool) : List α → Nat → Int
 | [], _ => -1
 | x :: l, i => if p x = true then (i : Int) else lidx p l (i + 1)

theorem lidx_any' {α : Type} (p : α → Bool) : ∀ (l : List α) (i : Nat), decide (0 ≤ lidx p l i) = l.any p
 | [], _ => by simp [lidx]
 | x :: l, i => by
   rw [lidx, List.any_cons]
   by_cases h : p x = true
   ·rw [if_pos h, h]; simp
   ·rw [if_neg h, lidx_any' p l (i + 1)]; simp at h; simp [h]

theorem lidx_any {α : Type} (p : α → Bool) (l : List α) : decide (0 ≤ lidx p l 0) = l.any p := lidx_any' p l 0

def every {α : Type} (p : α → Bool) (l : List α) (n : Int) : Bool := decide ((l.length : Int) ≤ n) && l.all p

def twiceFrom {α : Type} (q : α → α → Bool) (l : List α) : Nat → Nat → Bool
 | 0, _ => false
 | k + 1, i => (match l[i]? with
   | some x => (l.take i).any fun y => q x y
   | none => false) || twiceFrom q l k (i + 1)

def twice {α : Type} (q : α → α → Bool) (l : List α) : Bool := twiceFrom q l l.length 0

abbrev ASide.d (s : ASide) : D := .agg [int s.kind, str s.space, str s.name]
abbrev APair.d (p : APair) : D := .agg [str p.name, str p.val]
abbrev ANeed.d (n : ANeed) : D := .agg [int n.kind, str n.name, .pd (.slice (strs n.vals))]
abbrev AListener.d (l : AListener) : D := .agg [str l.name, int l.port, bln l.tls, str l.host, int l.cert.kind, str l.cert.space, str l.cert.name, int l.from_, .pd (.slice (rows ANeed.pd l.needs))]
abbrev AParent.d (p : AParent) : D := .agg [str p.space, str p.name, str p.section_, int p.port]
abbrev AMatch.d (m : AMatch) : D := .agg [int m.pkind, str m.pval, str m.method, .pd (.slice (rows APair.pd m.head)), .pd (.slice (rows APair.pd m.query))]
abbrev AFilter.d (f : AFilter) : D := .agg [int f.kind, str f.name, str f.val, str f.host, int f.port, str f.path, bln f.whole, int f.code]
abbrev ARule.d (r : ARule) : D := .agg [.pd (.slice (rows AMatch.pd r.matches_)), .pd (.slice (rows AFilter.pd r.filters)), .pd (.slice (rows ABackend.pd r.backends))]

abbrev ASide.ds (s : ASide) : List D := [int s.kind, str s.space, str s.name]
abbrev AListener.ds (l : AListener) : List D := [str l.name, int l.port, bln l.tls, str l.host, int l.cert.kind, str l.cert.space, str l.cert.name, int l.from_, .pd (.slice (rows ANeed.pd l.needs))]
abbrev AParent.ds (p : AParent) : List D := [str p.space, str p.name, str p.section_, int p.port]
def eqf {α : Type} (q : α → α → Bool) : List α → List α → Bool
 | [], [] => true
 | x :: l, y :: m => q x y && eqf q l m
 | _, _ => false

theorem eqf_len {α : Type} (q : α → α → Bool) : ∀ {l m : List α}, l.length ≠ m.length → eqf q l m = false
 | [], [], h => absurd rfl h
 | [], _ :: _, _ => rfl
 | _ :: _, [], _ => rfl
 | x :: l, y :: m, h => by
   rw [eqf, eqf_len q (by simpa using h), Bool.and_false]

theorem eq_int (x y : Int) : decide (x = y) = decide (x = y) := rfl
theorem eq_string (x y : ByteArray) : decide (x = y) = decide (x = y) := rfl
theorem eq_Pair (x y : APair) : (decide (x.name = y.name) && decide (x.val = y.val)) = decide (x = y) := by
 cases x; cases y; rw [Bool.eq_iff_iff]; simp
theorem eq_Side (x y : ASide) : (decide (x.kind = y.kind) && (decide (x.space = y.space) && decide (x.name = y.name))) = decide (x = y) := by
 cases x; cases y; rw [Bool.eq_iff_iff]; simp
theorem eq_Parent (x y : AParent) : (decide (x.space = y.space) && (decide (x.name = y.name) && (decide (x.section_ = y.section_) && decide (x.port = y.port)))) = decide (x = y) := by
 cases x; cases y; rw [Bool.eq_iff_iff]; simp
theorem eq_Ref (x y : ARef) : (decide (x.kind = y.kind) && (decide (x.space = y.space) && decide (x.name = y.name))) = decide (x = y) := by
 cases x; cases y; rw [Bool.eq_iff_iff]; simp
theorem eq_Backend (x y : ABackend) : (decide (x.ref.kind = y.ref.kind) && (decide (x.ref.space = y.ref.space) && (decide (x.ref.name = y.ref.name) && (decide (x.port = y.port) && decide (x.weight = y.weight))))) = decide (x = y) := by
 obtain ⟨⟨a, b, c⟩, d, e⟩ := x; obtain ⟨⟨a', b', c'⟩, d', e'⟩ := y; rw [Bool.eq_iff_iff]; simp [and_assoc]
theorem eq_Filter (x y : AFilter) : (decide (x.kind = y.kind) && (decide (x.name = y.name) && (decide (x.val = y.val) && (decide (x.host = y.host) && (decide (x.port = y.port) && (decide (x.path = y.path) && (x.whole == y.whole && decide (x.code = y.code)))))))) = decide (x = y) := by
 cases x; cases y; rw [Bool.eq_iff_iff]; simp


theorem IndexFunc_Side (p : ASide → Bool) (g : FuncId) (he : Enters Tryz.prog g) (caps : List (Nat × Nat)) (bs : List (Nat × List D)) (hc : Cl bs caps) (l : List ASide) (hl : l.length ≤ 1000000)
 (hp : ∀ x ∈ l, PureB Tryz.prog g (ASide.d x :: capD caps) bs (fun d => d = bln (p x))) :
 PureB Tryz.prog 240 [.pd (.slice (rows ASide.pd l)), .fn g caps] bs (fun d => d = int (lidx p l 0)) := by
 refine pureB_of_run follows an_zhz8f Tryz.func240 rfl ok_zhz8f.1 ok_zhz8f.2 (by simp [Tryz.ntmps240]) ?_
 rw [run_start]
 simp only [ac_zhz8f, go_sem, contS_seq, simprocAttr, rows_len]
 refine loopS (fun k st => ∃ i : Nat, k = l.length - i ∧ i ≤ l.length ∧ lidx p (l.drop i) i = lidx p l 0 ∧
  st = ⟨[(0, .pd (.slice (rows ASide.pd l))), (1, .fn g caps), (7, int l.length), (8, int i)], bs, [], .no⟩) l.length _ (Weak.refl _ _) ⟨0, rfl, Nat.zero_le _, rfl, rfl⟩ ?_
 rintro k st ⟨i, rfl, hi, hr, rfl⟩
 by_cases hlt : i < l.length
 ·obtain ⟨x, hx⟩ := at_lt hlt
  have hlt' : ((i : Int) < (l.length : Int)) = True := eq_true (by omega)
  have hw := i64_succ (show i < 1000000000 by omega)
  rw [drop_at hx, lidx] at hr
  simp only [go_sem, contS_seq, simprocAttr, hlt', rows_get hx]
  refine (hp x (List.mem_of_getElem? hx)).callW he _ (idr bs) hc.ok (hc.args (by rfl)) hc.see ?_
  rintro d rfl
  simp only [go_sem, contS_seq, simprocAttr]
  refine Gif.mk (fun h => ?_) (fun h => ?_)
  ·rw [if_pos h] at hr
   simp only [retK, resD, retL, oneD, simprocAttr, Tryz.results240]
   exact ⟨_, rfl, rfl, congrArg int hr⟩
  ·rw [if_neg (by simp [h])] at hr
   simp only [go_sem, contS_seq, simprocAttr, hw]
   refine ⟨l.length - (i + 1), _, ?_, ?_, i + 1, rfl, ?_, hr, rfl⟩
   ·omega
   ·exact Weak.less (by simp [lessL, lk]) (lessL_refl hc.nd) (by simp [lessL, lk]) rfl
   ·omega
 ·have hlt' : ((i : Int) < (l.length : Int)) = False := eq_false (by omega)
  rw [List.drop_eq_nil_of_le (by omega), lidx] at hr
  simp only [go_sem, contS_seq, simprocAttr, rows_len, hlt']
  simp only [retK, resD, retL, oneD, simprocAttr, Tryz.results240]
  exact ⟨_, rfl, rfl, congrArg int hr⟩

theorem IndexFunc_int (p : Int → Bool) (g : FuncId) (he : Enters Tryz.prog g) (caps : List (Nat × Nat)) (bs : List (Nat × List D)) (hc : Cl bs caps) (l : List Int) (hl : l.length ≤ 1000000)
 (hp : ∀ x ∈ l, PureB Tryz.prog g (int x :: capD caps) bs (fun d => d = bln (p x))) :
 PureB Tryz.prog 213 [.pd (.slice (rows cInt l)), .fn g caps] bs (fun d => d = int (lidx p l 0)) := by
 refine pureB_of_run follows an_zrckh Tryz.func213 rfl ok_zrckh.1 ok_zrckh.2 (by simp [Tryz.ntmps213]) ?_
 rw [run_start]
 simp only [ac_zrckh, go_sem, contS_seq, simprocAttr, rows_len]
 refine loopS (fun k st => ∃ i : Nat, k = l.length - i ∧ i ≤ l.length ∧ lidx p (l.drop i) i = lidx p l 0 ∧
  st = ⟨[(0, .pd (.slice (rows cInt l))), (1, .fn g caps), (7, int l.length), (8, int i)], bs, [], .no⟩) l.length _ (Weak.refl _ _) ⟨0, rfl, Nat.zero_le _, rfl, rfl⟩ ?_
 rintro k st ⟨i, rfl, hi, hr, rfl⟩
 by_cases hlt : i < l.length
 ·obtain ⟨x, hx⟩ := at_lt hlt
  have hlt' : ((i : Int) < (l.length : Int)) = True := eq_true (by omega)
  have hw := i64_succ (show i < 1000000000 by omega)
  rw [drop_at hx, lidx] at hr
  simp only [go_sem, contS_seq, simprocAttr, hlt', rows_get hx]
  refine (hp x (List.mem_of_getElem? hx)).callW he _ (idr bs) hc.ok (hc.args (by rfl)) hc.see ?_
  rintro d rfl
  simp only [go_sem, contS_seq, simprocAttr]
  refine Gif.mk (fun h => ?_) (fun h => ?_)
  ·rw [if_pos h] at hr
   simp only [retK, resD, retL, oneD, simprocAttr, Tryz.results213]
   exact ⟨_, rfl, rfl, congrArg int hr⟩
  ·rw [if_neg (by simp [h])] at hr
   simp only [go_sem, contS_seq, simprocAttr, hw]
   refine ⟨l.length - (i + 1), _, ?_, ?_, i + 1, rfl, ?_, hr, rfl⟩
   ·omega
   ·exact Weak.less (by simp [lessL, lk]) (lessL_refl hc.nd) (by simp [lessL, lk]) rfl
   ·omega
 ·have hlt' : ((i : Int) < (l.length : Int)) = False := eq_false (by omega)
  rw [List.drop_eq_nil_of_le (by omega), lidx] at hr
  simp only [go_sem, contS_seq, simprocAttr, rows_len, hlt']
  simp only [retK, resD, retL, oneD, simprocAttr, Tryz.results213]
  exact ⟨_, rfl, rfl, congrArg int hr⟩

theorem IndexFunc_Listener (p : AListener → Bool) (g : FuncId) (he : Enters Tryz.prog g) (caps : List (Nat × Nat)) (bs : List (Nat × List D)) (hc : Cl bs caps) (l : List AListener) (hl : l.length ≤ 1000000)
 (hp : ∀ x ∈ l, PureB Tryz.prog g (AListener.d x :: capD caps) bs (fun d => d = bln (p x))) :
 PureB Tryz.prog 214 [.pd (.slice (rows AListener.pd l)), .fn g caps] bs (fun d => d = int (lidx p l 0)) := by
 refine pureB_of_run follows an_z3tfr Tryz.func214 rfl ok_z3tfr.1 ok_z3tfr.2 (by simp [Tryz.ntmps214]) ?_
 rw [run_start]
 simp only [ac_z3tfr, go_sem, contS_seq, simprocAttr, rows_len]
 refine loopS (fun k st => ∃ i : Nat, k = l.length - i ∧ i ≤ l.length ∧ lidx p (l.drop i) i = lidx p l 0 ∧
  st = ⟨[(0, .pd (.slice (rows AListener.pd l))), (1, .fn g caps), (7, int l.length), (8, int i)], bs, [], .no⟩) l.length _ (Weak.refl _ _) ⟨0, rfl, Nat.zero_le _, rfl, rfl⟩ ?_
 rintro k st ⟨i, rfl, hi, hr, rfl⟩
 by_cases hlt : i < l.length
 ·obtain ⟨x, hx⟩ := at_lt hlt
  have hlt' : ((i : Int) < (l.length : Int)) = True := eq_true (by omega)
  have hw := i64_succ (show i < 1000000000 by omega)
  rw [drop_at hx, lidx] at hr
  simp only [go_sem, contS_seq, simprocAttr, hlt', rows_get hx]
  refine (hp x (List.mem_of_getElem? hx)).callW he _ (idr bs) hc.ok (hc.args (by rfl)) hc.see ?_
  rintro d rfl
  simp only [go_sem, contS_seq, simprocAttr]
  refine Gif.mk (fun h => ?_) (fun h => ?_)
  ·rw [if_pos h] at hr
   simp only [retK, resD, retL, oneD, simprocAttr, Tryz.results214]
   exact ⟨_, rfl, rfl, congrArg int hr⟩
  ·rw [if_neg (by simp [h])] at hr
   simp only [go_sem, contS_seq, simprocAttr, hw]
   refine ⟨l.length - (i + 1), _, ?_, ?_, i + 1, rfl, ?_, hr, rfl⟩
   ·omega
   ·exact Weak.less (by simp [lessL, lk]) (lessL_refl hc.nd) (by simp [lessL, lk]) rfl
   ·omega
 ·have hlt' : ((i : Int) < (l.length : Int)) = False := eq_false (by omega)
  rw [List.drop_eq_nil_of_le (by omega), lidx] at hr
  simp only [go_sem, contS_seq, simprocAttr, rows_len, hlt']
  simp only [retK, resD, retL, oneD, simprocAttr, Tryz.results214]
  exact ⟨_, rfl, rfl, congrArg int hr⟩

theorem IndexFunc_Need (p : ANeed → Bool) (g : FuncId) (he : Enters Tryz.prog g) (caps : List (Nat × Nat)) (bs : List (Nat × List D)) (hc : Cl bs caps) (l : List ANeed) (hl : l.length ≤ 1000000)
 (hp : ∀ x ∈ l, PureB Tryz.prog g (ANeed.d x :: capD caps) bs (fun d => d = bln (p x))) :
 PureB Tryz.prog 252 [.pd (.slice (rows ANeed.pd l)), .fn g caps] bs (fun d => d = int (lidx p l 0)) := by
 refine pureB_of_run follows an_zijlh Tryz.func252 rfl ok_zijlh.1 ok_zijlh.2 (by simp [Tryz.ntmps252]) ?_
 rw [run_start]
 simp only [ac_zijlh, go_sem, contS_seq, simprocAttr, rows_len]
 refine loopS (fun k st => ∃ i : Nat, k = l.length - i ∧ i ≤ l.length ∧ lidx p (l.drop i) i = lidx p l 0 ∧
  st = ⟨[(0, .pd (.slice (rows ANeed.pd l))), (1, .fn g caps), (7, int l.length), (8, int i)], bs, [], .no⟩) l.length _ (Weak.refl _ _) ⟨0, rfl, Nat.zero_le _, rfl, rfl⟩ ?_
 rintro k st ⟨i, rfl, hi, hr, rfl⟩
 by_cases hlt : i < l.length
 ·obtain ⟨x, hx⟩ := at_lt hlt
  have hlt' : ((i : Int) < (l.length : Int)) = True := eq_true (by omega)
  have hw := i64_succ (show i < 1000000000 by omega)
  rw [drop_at hx, lidx] at hr
  simp only [go_sem, contS_seq, simprocAttr, hlt', rows_get hx]
  refine (hp x (List.mem_of_getElem? hx)).callW he _ (idr bs) hc.ok (hc.args (by rfl)) hc.see ?_
  rintro d rfl
  simp only [go_sem, contS_seq, simprocAttr]
  refine Gif.mk (fun h => ?_) (fun h => ?_)
  ·rw [if_pos h] at hr
   simp only [retK, resD, retL, oneD, simprocAttr, Tryz.results252]
   exact ⟨_, rfl, rfl, congrArg int hr⟩
  ·rw [if_neg (by simp [h])] at hr
   simp only [go_sem, contS_seq, simprocAttr, hw]
   refine ⟨l.length - (i + 1), _, ?_, ?_, i + 1, rfl, ?_, hr, rfl⟩
   ·omega
   ·exact Weak.less (by simp [lessL, lk]) (lessL_refl hc.nd) (by simp [lessL, lk]) rfl
   ·omega
 ·have hlt' : ((i : Int) < (l.length : Int)) = False := eq_false (by omega)
  rw [List.drop_eq_nil_of_le (by omega), lidx] at hr
  simp only [go_sem, contS_seq, simprocAttr, rows_len, hlt']
  simp only [retK, resD, retL, oneD, simprocAttr, Tryz.results252]
  exact ⟨_, rfl, rfl, congrArg int hr⟩

theorem IndexFunc_Parent (p : AParent → Bool) (g : FuncId) (he : Enters Tryz.prog g) (caps : List (Nat × Nat)) (bs : List (Nat × List D)) (hc : Cl bs caps) (l : List AParent) (hl : l.length ≤ 1000000)
 (hp : ∀ x ∈ l, PureB Tryz.prog g (AParent.d x :: capD caps) bs (fun d => d = bln (p x))) :
 PureB Tryz.prog 218 [.pd (.slice (rows AParent.pd l)), .fn g caps] bs (fun d => d = int (lidx p l 0)) := by
 refine pureB_of_run follows an_zwjxg Tryz.func218 rfl ok_zwjxg.1 ok_zwjxg.2 (by simp [Tryz.ntmps218]) ?_
 rw [run_start]
 simp only [ac_zwjxg, go_sem, contS_seq, simprocAttr, rows_len]
 refine loopS (fun k st => ∃ i : Nat, k = l.length - i ∧ i ≤ l.length ∧ lidx p (l.drop i) i = lidx p l 0 ∧
  st = ⟨[(0, .pd (.slice (rows AParent.pd l))), (1, .fn g caps), (7, int l.length), (8, int i)], bs, [], .no⟩) l.length _ (Weak.refl _ _) ⟨0, rfl, Nat.zero_le _, rfl, rfl⟩ ?_
 rintro k st ⟨i, rfl, hi, hr, rfl⟩
 by_cases hlt : i < l.length
 ·obtain ⟨x, hx⟩ := at_lt hlt
  have hlt' : ((i : Int) < (l.length : Int)) = True := eq_true (by omega)
  have hw := i64_succ (show i < 1000000000 by omega)
  rw [drop_at hx, lidx] at hr
  simp only [go_sem, contS_seq, simprocAttr, hlt', rows_get hx]
  refine (hp x (List.mem_of_getElem? hx)).callW he _ (idr bs) hc.ok (hc.args (by rfl)) hc.see ?_
  rintro d rfl
  simp only [go_sem, contS_seq, simprocAttr]
  refine Gif.mk (fun h => ?_) (fun h => ?_)
  ·rw [if_pos h] at hr
   simp only [retK, resD, retL, oneD, simprocAttr, Tryz.results218]
   exact ⟨_, rfl, rfl, congrArg int hr⟩
  ·rw [if_neg (by simp [h])] at hr
   simp only [go_sem, contS_seq, simprocAttr, hw]
   refine ⟨l.length - (i + 1), _, ?_, ?_, i + 1, rfl, ?_, hr, rfl⟩
   ·omega
   ·exact Weak.less (by simp [lessL, lk]) (lessL_refl hc.nd) (by simp [lessL, lk]) rfl
   ·omega
 ·have hlt' : ((i : Int) < (l.length : Int)) = False := eq_false (by omega)
  rw [List.drop_eq_nil_of_le (by omega), lidx] at hr
  simp only [go_sem, contS_seq, simprocAttr, rows_len, hlt']
  simp only [retK, resD, retL, oneD, simprocAttr, Tryz.results218]
  exact ⟨_, rfl, rfl, congrArg int hr⟩

theorem IndexFunc_string (p : ByteArray → Bool) (g : FuncId) (he : Enters Tryz.prog g) (caps : List (Nat × Nat)) (bs : List (Nat × List D)) (hc : Cl bs caps) (l : List ByteArray) (hl : l.length ≤ 1000000)
 (hp : ∀ x ∈ l, PureB Tryz.prog g (str x :: capD caps) bs (fun d => d = bln (p x))) :
 PureB Tryz.prog 219 [.pd (.slice (rows cStr l)), .fn g caps] bs (fun d => d = int (lidx p l 0)) := by
 refine pureB_of_run follows an_zski5 Tryz.func219 rfl ok_zski5.1 ok_zski5.2 (by simp [Tryz.ntmps219]) ?_
 rw [run_start]
 simp only [ac_zski5, go_sem, contS_seq, simprocAttr, rows_len]
 refine loopS (fun k st => ∃ i : Nat, k = l.length - i ∧ i ≤ l.length ∧ lidx p (l.drop i) i = lidx p l 0 ∧
  st = ⟨[(0, .pd (.slice (rows cStr l))), (1, .fn g caps), (7, int l.length), (8, int i)], bs, [], .no⟩) l.length _ (Weak.refl _ _) ⟨0, rfl, Nat.zero_le _, rfl, rfl⟩ ?_
 rintro k st ⟨i, rfl, hi, hr, rfl⟩
 by_cases hlt : i < l.length
 ·obtain ⟨x, hx⟩ := at_lt hlt
  have hlt' : ((i : Int) < (l.length : Int)) = True := eq_true (by omega)
  have hw := i64_succ (show i < 1000000000 by omega)
  rw [drop_at hx, lidx] at hr
  simp only [go_sem, contS_seq, simprocAttr, hlt', rows_get hx]
  refine (hp x (List.mem_of_getElem? hx)).callW he _ (idr bs) hc.ok (hc.args (by rfl)) hc.see ?_
  rintro d rfl
  simp only [go_sem, contS_seq, simprocAttr]
  refine Gif.mk (fun h => ?_) (fun h => ?_)
  ·rw [if_pos h] at hr
   simp only [retK, resD, retL, oneD, simprocAttr, Tryz.results219]
   exact ⟨_, rfl, rfl, congrArg int hr⟩
  ·rw [if_neg (by simp [h])] at hr
   simp only [go_sem, contS_seq, simprocAttr, hw]
   refine ⟨l.length - (i + 1), _, ?_, ?_, i + 1, rfl, ?_, hr, rfl⟩
   ·omega
   ·exact Weak.less (by simp [lessL, lk]) (lessL_refl hc.nd) (by simp [lessL, lk]) rfl
   ·omega
 ·have hlt' : ((i : Int) < (l.length : Int)) = False := eq_false (by omega)
  rw [List.drop_eq_nil_of_le (by omega), lidx] at hr
  simp only [go_sem, contS_seq, simprocAttr, rows_len, hlt']
  simp only [retK, resD, retL, oneD, simprocAttr, Tryz.results219]
  exact ⟨_, rfl, rfl, congrArg int hr⟩


theorem IndexFunc_Rule (p : ARule → Bool) (g : FuncId) (he : Enters Tryz.prog g) (caps : List (Nat × Nat)) (bs : List (Nat × List D)) (hc : Cl bs caps) (l : List ARule) (hl : l.length ≤ 1000000)
 (hp : ∀ x ∈ l, PureB Tryz.prog g (ARule.d x :: capD caps) bs (fun d => d = bln (p x))) :
 PureB Tryz.prog 221 [.pd (.slice (rows ARule.pd l)), .fn g caps] bs (fun d => d = int (lidx p l 0)) := by
 refine pureB_of_run follows an_zwh23 Tryz.func221 rfl ok_zwh23.1 ok_zwh23.2 (by simp [Tryz.ntmps221]) ?_
 rw [run_start]
 simp only [ac_zwh23, go_sem, contS_seq, simprocAttr, rows_len]
 refine loopS (fun k st => ∃ i : Nat, k = l.length - i ∧ i ≤ l.length ∧ lidx p (l.drop i) i = lidx p l 0 ∧
  st = ⟨[(0, .pd (.slice (rows ARule.pd l))), (1, .fn g caps), (7, int l.length), (8, int i)], bs, [], .no⟩) l.length _ (Weak.refl _ _) ⟨0, rfl, Nat.zero_le _, rfl, rfl⟩ ?_
 rintro k st ⟨i, rfl, hi, hr, rfl⟩
 by_cases hlt : i < l.length
 ·obtain ⟨x, hx⟩ := at_lt hlt
  have hlt' : ((i : Int) < (l.length : Int)) = True := eq_true (by omega)
  have hw := i64_succ (show i < 1000000000 by omega)
  rw [drop_at hx, lidx] at hr
  simp only [go_sem, contS_seq, simprocAttr, hlt', rows_get hx]
  refine (hp x (List.mem_of_getElem? hx)).callW he _ (idr bs) hc.ok (hc.args (by rfl)) hc.see ?_
  rintro d rfl
  simp only [go_sem, contS_seq, simprocAttr]
  refine Gif.mk (fun h => ?_) (fun h => ?_)
  ·rw [if_pos h] at hr
   simp only [retK, resD, retL, oneD, simprocAttr, Tryz.results221]
   exact ⟨_, rfl, rfl, congrArg int hr⟩
  ·rw [if_neg (by simp [h])] at hr
   simp only [go_sem, contS_seq, simprocAttr, hw]
   refine ⟨l.length - (i + 1), _, ?_, ?_, i + 1, rfl, ?_, hr, rfl⟩
   ·omega
   ·exact Weak.less (by simp [lessL, lk]) (lessL_refl hc.nd) (by simp [lessL, lk]) rfl
   ·omega
 ·have hlt' : ((i : Int) < (l.length : Int)) = False := eq_false (by omega)
  rw [List.drop_eq_nil_of_le (by omega), lidx] at hr
  simp only [go_sem, contS_seq, simprocAttr, rows_len, hlt']
  simp only [retK, resD, retL, oneD, simprocAttr, Tryz.results221]
  exact ⟨_, rfl, rfl, congrArg int hr⟩

theorem IndexFunc_Match (p : AMatch → Bool) (g : FuncId) (he : Enters Tryz.prog g) (caps : List (Nat × Nat)) (bs : List (Nat × List D)) (hc : Cl bs caps) (l : List AMatch) (hl : l.length ≤ 1000000)
 (hp : ∀ x ∈ l, PureB Tryz.prog g (AMatch.d x :: capD caps) bs (fun d => d = bln (p x))) :
 PureB Tryz.prog 255 [.pd (.slice (rows AMatch.pd l)), .fn g caps] bs (fun d => d = int (lidx p l 0)) := by
 refine pureB_of_run follows an_zsjmp Tryz.func255 rfl ok_zsjmp.1 ok_zsjmp.2 (by simp [Tryz.ntmps255]) ?_
 rw [run_start]
 simp only [ac_zsjmp, go_sem, contS_seq, simprocAttr, rows_len]
 refine loopS (fun k st => ∃ i : Nat, k = l.length - i ∧ i ≤ l.length ∧ lidx p (l.drop i) i = lidx p l 0 ∧
  st = ⟨[(0, .pd (.slice (rows AMatch.pd l))), (1, .fn g caps), (7, int l.length), (8, int i)], bs, [], .no⟩) l.length _ (Weak.refl _ _) ⟨0, rfl, Nat.zero_le _, rfl, rfl⟩ ?_
 rintro k st ⟨i, rfl, hi, hr, rfl⟩
 by_cases hlt : i < l.length
 ·obtain ⟨x, hx⟩ := at_lt hlt
  have hlt' : ((i : Int) < (l.length : Int)) = True := eq_true (by omega)
  have hw := i64_succ (show i < 1000000000 by omega)
  rw [drop_at hx, lidx] at hr
  simp only [go_sem, contS_seq, simprocAttr, hlt', rows_get hx]
  refine (hp x (List.mem_of_getElem? hx)).callW he _ (idr bs) hc.ok (hc.args (by rfl)) hc.see ?_
  rintro d rfl
  simp only [go_sem, contS_seq, simprocAttr]
  refine Gif.mk (fun h => ?_) (fun h => ?_)
  ·rw [if_pos h] at hr
   simp only [retK, resD, retL, oneD, simprocAttr, Tryz.results255]
   exact ⟨_, rfl, rfl, congrArg int hr⟩
  ·rw [if_neg (by simp [h])] at hr
   simp only [go_sem, contS_seq, simprocAttr, hw]
   refine ⟨l.length - (i + 1), _, ?_, ?_, i + 1, rfl, ?_, hr, rfl⟩
   ·omega
   ·exact Weak.less (by simp [lessL, lk]) (lessL_refl hc.nd) (by simp [lessL, lk]) rfl
   ·omega
 ·have hlt' : ((i : Int) < (l.length : Int)) = False := eq_false (by omega)
  rw [List.drop_eq_nil_of_le (by omega), lidx] at hr
  simp only [go_sem, contS_seq, simprocAttr, rows_len, hlt']
  simp only [retK, resD, retL, oneD, simprocAttr, Tryz.results255]
  exact ⟨_, rfl, rfl, congrArg int hr⟩

theorem IndexFunc_Pair (p : APair → Bool) (g : FuncId) (he : Enters Tryz.prog g) (caps : List (Nat × Nat)) (bs : List (Nat × List D)) (hc : Cl bs caps) (l : List APair) (hl : l.length ≤ 1000000)
 (hp : ∀ x ∈ l, PureB Tryz.prog g (APair.d x :: capD caps) bs (fun d => d = bln (p x))) :
 PureB Tryz.prog 261 [.pd (.slice (rows APair.pd l)), .fn g caps] bs (fun d => d = int (lidx p l 0)) := by
 refine pureB_of_run follows an_zdecl Tryz.func261 rfl ok_zdecl.1 ok_zdecl.2 (by simp [Tryz.ntmps261]) ?_
 rw [run_start]
 simp only [ac_zdecl, go_sem, contS_seq, simprocAttr, rows_len]
 refine loopS (fun k st => ∃ i : Nat, k = l.length - i ∧ i ≤ l.length ∧ lidx p (l.drop i) i = lidx p l 0 ∧
  st = ⟨[(0, .pd (.slice (rows APair.pd l))), (1, .fn g caps), (7, int l.length), (8, int i)], bs, [], .no⟩) l.length _ (Weak.refl _ _) ⟨0, rfl, Nat.zero_le _, rfl, rfl⟩ ?_
 rintro k st ⟨i, rfl, hi, hr, rfl⟩
 by_cases hlt : i < l.length
 ·obtain ⟨x, hx⟩ := at_lt hlt
  have hlt' : ((i : Int) < (l.length : Int)) = True := eq_true (by omega)
  have hw := i64_succ (show i < 1000000000 by omega)
  rw [drop_at hx, lidx] at hr
  simp only [go_sem, contS_seq, simprocAttr, hlt', rows_get hx]
  refine (hp x (List.mem_of_getElem? hx)).callW he _ (idr bs) hc.ok (hc.args (by rfl)) hc.see ?_
  rintro d rfl
  simp only [go_sem, contS_seq, simprocAttr]
  refine Gif.mk (fun h => ?_) (fun h => ?_)
  ·rw [if_pos h] at hr
   simp only [retK, resD, retL, oneD, simprocAttr, Tryz.results261]
   exact ⟨_, rfl, rfl, congrArg int hr⟩
  ·rw [if_neg (by simp [h])] at hr
   simp only [go_sem, contS_seq, simprocAttr, hw]
   refine ⟨l.length - (i + 1), _, ?_, ?_, i + 1, rfl, ?_, hr, rfl⟩
   ·omega
   ·exact Weak.less (by simp [lessL, lk]) (lessL_refl hc.nd) (by simp [lessL, lk]) rfl
   ·omega
 ·have hlt' : ((i : Int) < (l.length : Int)) = False := eq_false (by omega)
  rw [List.drop_eq_nil_of_le (by omega), lidx] at hr
  simp only [go_sem, contS_seq, simprocAttr, rows_len, hlt']
  simp only [retK, resD, retL, oneD, simprocAttr, Tryz.results261]
  exact ⟨_, rfl, rfl, congrArg int hr⟩

theorem IndexFunc_Filter (p : AFilter → Bool) (g : FuncId) (he : Enters Tryz.prog g) (caps : List (Nat × Nat)) (bs : List (Nat × List D)) (hc : Cl bs caps) (l : List AFilter) (hl : l.length ≤ 1000000)
 (hp : ∀ x ∈ l, PureB Tryz.prog g (AFilter.d x :: capD caps) bs (fun d => d = bln (p x))) :
 PureB Tryz.prog 265 [.pd (.slice (rows AFilter.pd l)), .fn g caps] bs (fun d => d = int (lidx p l 0)) := by
 refine pureB_of_run follows an_zwgkv Tryz.func265 rfl ok_zwgkv.1 ok_zwgkv.2 (by simp [Tryz.ntmps265]) ?_
 rw [run_start]
 simp only [ac_zwgkv, go_sem, contS_seq, simprocAttr, rows_len]
 refine loopS (fun k st => ∃ i : Nat, k = l.length - i ∧ i ≤ l.length ∧ lidx p (l.drop i) i = lidx p l 0 ∧
  st = ⟨[(0, .pd (.slice (rows AFilter.pd l))), (1, .fn g caps), (7, int l.length), (8, int i)], bs, [], .no⟩) l.length _ (Weak.refl _ _) ⟨0, rfl, Nat.zero_le _, rfl, rfl⟩ ?_
 rintro k st ⟨i, rfl, hi, hr, rfl⟩
 by_cases hlt : i < l.length
 ·obtain ⟨x, hx⟩ := at_lt hlt
  have hlt' : ((i : Int) < (l.length : Int)) = True := eq_true (by omega)
  have hw := i64_succ (show i < 1000000000 by omega)
  rw [drop_at hx, lidx] at hr
  simp only [go_sem, contS_seq, simprocAttr, hlt', rows_get hx]
  refine (hp x (List.mem_of_getElem? hx)).callW he _ (idr bs) hc.ok (hc.args (by rfl)) hc.see ?_
  rintro d rfl
  simp only [go_sem, contS_seq, simprocAttr]
  refine Gif.mk (fun h => ?_) (fun h => ?_)
  ·rw [if_pos h] at hr
   simp only [retK, resD, retL, oneD, simprocAttr, Tryz.results265]
   exact ⟨_, rfl, rfl, congrArg int hr⟩
  ·rw [if_neg (by simp [h])] at hr
   simp only [go_sem, contS_seq, simprocAttr, hw]
   refine ⟨l.length - (i + 1), _, ?_, ?_, i + 1, rfl, ?_, hr, rfl⟩
   ·omega
   ·exact Weak.less (by simp [lessL, lk]) (lessL_refl hc.nd) (by simp [lessL, lk]) rfl
   ·omega
 ·have hlt' : ((i : Int) < (l.length : Int)) = False := eq_false (by omega)
  rw [List.drop_eq_nil_of_le (by omega), lidx] at hr
  simp only [go_sem, contS_seq, simprocAttr, rows_len, hlt']
  simp only [retK, resD, retL, oneD, simprocAttr, Tryz.results265]
  exact ⟨_, rfl, rfl, congrArg int hr⟩

theorem IndexFunc_Backend (p : ABackend → Bool) (g : FuncId) (he : Enters Tryz.prog g) (caps : List (Nat × Nat)) (bs : List (Nat × List D)) (hc : Cl bs caps) (l : List ABackend) (hl : l.length ≤ 1000000)
 (hp : ∀ x ∈ l, PureB Tryz.prog g (ABackend.d x :: capD caps) bs (fun d => d = bln (p x))) :
 PureB Tryz.prog 266 [.pd (.slice (rows ABackend.pd l)), .fn g caps] bs (fun d => d = int (lidx p l 0)) := by
 refine pureB_of_run follows an_zbcsd Tryz.func266 rfl ok_zbcsd.1 ok_zbcsd.2 (by simp [Tryz.ntmps266]) ?_
 rw [run_start]
 simp only [ac_zbcsd, go_sem, contS_seq, simprocAttr, rows_len]
 refine loopS (fun k st => ∃ i : Nat, k = l.length - i ∧ i ≤ l.length ∧ lidx p (l.drop i) i = lidx p l 0 ∧
  st = ⟨[(0, .pd (.slice (rows ABackend.pd l))), (1, .fn g caps), (7, int l.length), (8, int i)], bs, [], .no⟩) l.length _ (Weak.refl _ _) ⟨0, rfl, Nat.zero_le _, rfl, rfl⟩ ?_
 rintro k st ⟨i, rfl, hi, hr, rfl⟩
 by_cases hlt : i < l.length
 ·obtain ⟨x, hx⟩ := at_lt hlt
  have hlt' : ((i : Int) < (l.length : Int)) = True := eq_true (by omega)
  have hw := i64_succ (show i < 1000000000 by omega)
  rw [drop_at hx, lidx] at hr
  simp only [go_sem, contS_seq, simprocAttr, hlt', rows_get hx]
  refine (hp x (List.mem_of_getElem? hx)).callW he _ (idr bs) hc.ok (hc.args (by rfl)) hc.see ?_
  rintro d rfl
  simp only [go_sem, contS_seq, simprocAttr]
  refine Gif.mk (fun h => ?_) (fun h => ?_)
  ·rw [if_pos h] at hr
   simp only [retK, resD, retL, oneD, simprocAttr, Tryz.results266]
   exact ⟨_, rfl, rfl, congrArg int hr⟩
  ·rw [if_neg (by simp [h])] at hr
   simp only [go_sem, contS_seq, simprocAttr, hw]
   refine ⟨l.length - (i + 1), _, ?_, ?_, i + 1, rfl, ?_, hr, rfl⟩
   ·omega
   ·exact Weak.less (by simp [lessL, lk]) (lessL_refl hc.nd) (by simp [lessL, lk]) rfl
   ·omega
 ·have hlt' : ((i : Int) < (l.length : Int)) = False := eq_false (by omega)
  rw [List.drop_eq_nil_of_le (by omega), lidx] at hr
  simp only [go_sem, contS_seq, simprocAttr, rows_len, hlt']
  simp only [retK, resD, retL, oneD, simprocAttr, Tryz.results266]
  exact ⟨_, rfl, rfl, congrArg int hr⟩


theorem ContainsFunc_Side (p : ASide → Bool) (g : FuncId) (he : Enters Tryz.prog g) (caps : List (Nat × Nat)) (bs : List (Nat × List D)) (hc : Cl bs caps) (l : List ASide) (hl : l.length ≤ 1000000)
 (hp : ∀ x ∈ l, PureB Tryz.prog g (ASide.d x :: capD caps) bs (fun d => d = bln (p x))) :
 PureB Tryz.prog 198 [.pd (.slice (rows ASide.pd l)), .fn g caps] bs (fun d => d = bln (l.any p)) := by
 refine pureB_of_run follows an_zkgk0 Tryz.func198 rfl ok_zkgk0.1 ok_zkgk0.2 (by simp [Tryz.ntmps198]) ?_
 rw [run_start]
 simp only [ac_zkgk0, go_sem, contS_seq, simprocAttr, rows_len]
 refine (IndexFunc_Side p g he caps bs hc l hl hp).callW (enters_of Tryz.func240 rfl rfl) _ (idr bs) hc.ok hc.two hc.see ?_
 rintro d rfl
 simp only [go_sem, contS_seq, simprocAttr]
 simp only [retK, resD, retL, oneD, simprocAttr, Tryz.results198]
 exact ⟨_, rfl, rfl, congrArg bln (lidx_any p l)⟩

theorem ContainsFunc_int (p : Int → Bool) (g : FuncId) (he : Enters Tryz.prog g) (caps : List (Nat × Nat)) (bs : List (Nat × List D)) (hc : Cl bs caps) (l : List Int) (hl : l.length ≤ 1000000)
 (hp : ∀ x ∈ l, PureB Tryz.prog g (int x :: capD caps) bs (fun d => d = bln (p x))) :
 PureB Tryz.prog 175 [.pd (.slice (rows cInt l)), .fn g caps] bs (fun d => d = bln (l.any p)) := by
 refine pureB_of_run follows an_z2spj Tryz.func175 rfl ok_z2spj.1 ok_z2spj.2 (by simp [Tryz.ntmps175]) ?_
 rw [run_start]
 simp only [ac_z2spj, go_sem, contS_seq, simprocAttr, rows_len]
 refine (IndexFunc_int p g he caps bs hc l hl hp).callW (enters_of Tryz.func213 rfl rfl) _ (idr bs) hc.ok hc.two hc.see ?_
 rintro d rfl
 simp only [go_sem, contS_seq, simprocAttr]
 simp only [retK, resD, retL, oneD, simprocAttr, Tryz.results175]
 exact ⟨_, rfl, rfl, congrArg bln (lidx_any p l)⟩

theorem ContainsFunc_Listener (p : AListener → Bool) (g : FuncId) (he : Enters Tryz.prog g) (caps : List (Nat × Nat)) (bs : List (Nat × List D)) (hc : Cl bs caps) (l : List AListener) (hl : l.length ≤ 1000000)
 (hp : ∀ x ∈ l, PureB Tryz.prog g (AListener.d x :: capD caps) bs (fun d => d = bln (p x))) :
 PureB Tryz.prog 179 [.pd (.slice (rows AListener.pd l)), .fn g caps] bs (fun d => d = bln (l.any p)) := by
 refine pureB_of_run follows an_zosgm Tryz.func179 rfl ok_zosgm.1 ok_zosgm.2 (by simp [Tryz.ntmps179]) ?_
 rw [run_start]
 simp only [ac_zosgm, go_sem, contS_seq, simprocAttr, rows_len]
 refine (IndexFunc_Listener p g he caps bs hc l hl hp).callW (enters_of Tryz.func214 rfl rfl) _ (idr bs) hc.ok hc.two hc.see ?_
 rintro d rfl
 simp only [go_sem, contS_seq, simprocAttr]
 simp only [retK, resD, retL, oneD, simprocAttr, Tryz.results179]
 exact ⟨_, rfl, rfl, congrArg bln (lidx_any p l)⟩

theorem ContainsFunc_Need (p : ANeed → Bool) (g : FuncId) (he : Enters Tryz.prog g) (caps : List (Nat × Nat)) (bs : List (Nat × List D)) (hc : Cl bs caps) (l : List ANeed) (hl : l.length ≤ 1000000)
 (hp : ∀ x ∈ l, PureB Tryz.prog g (ANeed.d x :: capD caps) bs (fun d => d = bln (p x))) :
 PureB Tryz.prog 215 [.pd (.slice (rows ANeed.pd l)), .fn g caps] bs (fun d => d = bln (l.any p)) := by
 refine pureB_of_run follows an_zy4fu Tryz.func215 rfl ok_zy4fu.1 ok_zy4fu.2 (by simp [Tryz.ntmps215]) ?_
 rw [run_start]
 simp only [ac_zy4fu, go_sem, contS_seq, simprocAttr, rows_len]
 refine (IndexFunc_Need p g he caps bs hc l hl hp).callW (enters_of Tryz.func252 rfl rfl) _ (idr bs) hc.ok hc.two hc.see ?_
 rintro d rfl
 simp only [go_sem, contS_seq, simprocAttr]
 simp only [retK, resD, retL, oneD, simprocAttr, Tryz.results215]
 exact ⟨_, rfl, rfl, congrArg bln (lidx_any p l)⟩

theorem ContainsFunc_Parent (p : AParent → Bool) (g : FuncId) (he : Enters Tryz.prog g) (caps : List (Nat × Nat)) (bs : List (Nat × List D)) (hc : Cl bs caps) (l : List AParent) (hl : l.length ≤ 1000000)
 (hp : ∀ x ∈ l, PureB Tryz.prog g (AParent.d x :: capD caps) bs (fun d => d = bln (p x))) :
 PureB Tryz.prog 184 [.pd (.slice (rows AParent.pd l)), .fn g caps] bs (fun d => d = bln (l.any p)) := by
 refine pureB_of_run follows an_zic3s Tryz.func184 rfl ok_zic3s.1 ok_zic3s.2 (by simp [Tryz.ntmps184]) ?_
 rw [run_start]
 simp only [ac_zic3s, go_sem, contS_seq, simprocAttr, rows_len]
 refine (IndexFunc_Parent p g he caps bs hc l hl hp).callW (enters_of Tryz.func218 rfl rfl) _ (idr bs) hc.ok hc.two hc.see ?_
 rintro d rfl
 simp only [go_sem, contS_seq, simprocAttr]
 simp only [retK, resD, retL, oneD, simprocAttr, Tryz.results184]
 exact ⟨_, rfl, rfl, congrArg bln (lidx_any p l)⟩

theorem ContainsFunc_string (p : ByteArray → Bool) (g : FuncId) (he : Enters Tryz.prog g) (caps : List (Nat × Nat)) (bs : List (Nat × List D)) (hc : Cl bs caps) (l : List ByteArray) (hl : l.length ≤ 1000000)
 (hp : ∀ x ∈ l, PureB Tryz.prog g (str x :: capD caps) bs (fun d => d = bln (p x))) :
 PureB Tryz.prog 186 [.pd (.slice (rows cStr l)), .fn g caps] bs (fun d => d = bln (l.any p)) := by
 refine pureB_of_run follows an_zyx5 Tryz.func186 rfl ok_zyx5.1 ok_zyx5.2 (by simp [Tryz.ntmps186]) ?_
 rw [run_start]
 simp only [ac_zyx5, go_sem, contS_seq, simprocAttr, rows_len]
 refine (IndexFunc_string p g he caps bs hc l hl hp).callW (enters_of Tryz.func219 rfl rfl) _ (idr bs) hc.ok hc.two hc.see ?_
 rintro d rfl
 simp only [go_sem, contS_seq, simprocAttr]
 simp only [retK, resD, retL, oneD, simprocAttr, Tryz.results186]
 exact ⟨_, rfl, rfl, congrArg bln (lidx_any p l)⟩

theorem ContainsFunc_Rule (p : ARule → Bool) (g : FuncId) (he : Enters Tryz.prog g) (caps : List (Nat × Nat)) (bs : List (Nat × List D)) (hc : Cl bs caps) (l : List ARule) (hl : l.length ≤ 1000000)
 (hp : ∀ x ∈ l, PureB Tryz.prog g (ARule.d x :: capD caps) bs (fun d => d = bln (p x))) :
 PureB Tryz.prog 191 [.pd (.slice (rows ARule.pd l)), .fn g caps] bs (fun d => d = bln (l.any p)) := by
 refine pureB_of_run follows an_zwd90 Tryz.func191 rfl ok_zwd90.1 ok_zwd90.2 (by simp [Tryz.ntmps191]) ?_
 rw [run_start]
 simp only [ac_zwd90, go_sem, contS_seq, simprocAttr, rows_len]
 refine (IndexFunc_Rule p g he caps bs hc l hl hp).callW (enters_of Tryz.func221 rfl rfl) _ (idr bs) hc.ok hc.two hc.see ?_
 rintro d rfl
 simp only [go_sem, contS_seq, simprocAttr]
 simp only [retK, resD, retL, oneD, simprocAttr, Tryz.results191]
 exact ⟨_, rfl, rfl, congrArg bln (lidx_any p l)⟩

theorem ContainsFunc_Match (p : AMatch → Bool) (g : FuncId) (he : Enters Tryz.prog g) (caps : List (Nat × Nat)) (bs : List (Nat × List D)) (hc : Cl bs caps) (l : List AMatch) (hl : l.length ≤ 1000000)
 (hp : ∀ x ∈ l, PureB Tryz.prog g (AMatch.d x :: capD caps) bs (fun d => d = bln (p x))) :
 PureB Tryz.prog 222 [.pd (.slice (rows AMatch.pd l)), .fn g caps] bs (fun d => d = bln (l.any p)) := by
 refine pureB_of_run follows an_zmyh8 Tryz.func222 rfl ok_zmyh8.1 ok_zmyh8.2 (by simp [Tryz.ntmps222]) ?_
 rw [run_start]
 simp only [ac_zmyh8, go_sem, contS_seq, simprocAttr, rows_len]
 refine (IndexFunc_Match p g he caps bs hc l hl hp).callW (enters_of Tryz.func255 rfl rfl) _ (idr bs) hc.ok hc.two hc.see ?_
 rintro d rfl
 simp only [go_sem, contS_seq, simprocAttr]
 simp only [retK, resD, retL, oneD, simprocAttr, Tryz.results222]
 exact ⟨_, rfl, rfl, congrArg bln (lidx_any p l)⟩

theorem ContainsFunc_Pair (p : APair → Bool) (g : FuncId) (he : Enters Tryz.prog g) (caps : List (Nat × Nat)) (bs : List (Nat × List D)) (hc : Cl bs caps) (l : List APair) (hl : l.length ≤ 1000000)
 (hp : ∀ x ∈ l, PureB Tryz.prog g (APair.d x :: capD caps) bs (fun d => d = bln (p x))) :
 PureB Tryz.prog 229 [.pd (.slice (rows APair.pd l)), .fn g caps] bs (fun d => d = bln (l.any p)) := by
 refine pureB_of_run follows an_zr7hm Tryz.func229 rfl ok_zr7hm.1 ok_zr7hm.2 (by simp [Tryz.ntmps229]) ?_
 rw [run_start]
 simp only [ac_zr7hm, go_sem, contS_seq, simprocAttr, rows_len]
 refine (IndexFunc_Pair p g he caps bs hc l hl hp).callW (enters_of Tryz.func261 rfl rfl) _ (idr bs) hc.ok hc.two hc.see ?_
 rintro d rfl
 simp only [go_sem, contS_seq, simprocAttr]
 simp only [retK, resD, retL, oneD, simprocAttr, Tryz.results229]
 exact ⟨_, rfl, rfl, congrArg bln (lidx_any p l)⟩

theorem ContainsFunc_Filter (p : AFilter → Bool) (g : FuncId) (he : Enters Tryz.prog g) (caps : List (Nat × Nat)) (bs : List (Nat × List D)) (hc : Cl bs caps) (l : List AFilter) (hl : l.length ≤ 1000000)
 (hp : ∀ x ∈ l, PureB Tryz.prog g (AFilter.d x :: capD caps) bs (fun d => d = bln (p x))) :
 PureB Tryz.prog 237 [.pd (.slice (rows AFilter.pd l)), .fn g caps] bs (fun d => d = bln (l.any p)) := by
 refine pureB_of_run follows an_zi3lv Tryz.func237 rfl ok_zi3lv.1 ok_zi3lv.2 (by simp [Tryz.ntmps237]) ?_
 rw [run_start]
 simp only [ac_zi3lv, go_sem, contS_seq, simprocAttr, rows_len]
 refine (IndexFunc_Filter p g he caps bs hc l hl hp).callW (enters_of Tryz.func265 rfl rfl) _ (idr bs) hc.ok hc.two hc.see ?_
 rintro d rfl
 simp only [go_sem, contS_seq, simprocAttr]
 simp only [retK, resD, retL, oneD, simprocAttr, Tryz.results237]
 exact ⟨_, rfl, rfl, congrArg bln (lidx_any p l)⟩

theorem ContainsFunc_Backend (p : ABackend → Bool) (g : FuncId) (he : Enters Tryz.prog g) (caps : List (Nat × Nat)) (bs : List (Nat × List D)) (hc : Cl bs caps) (l : List ABackend) (hl : l.length ≤ 1000000)
 (hp : ∀ x ∈ l, PureB Tryz.prog g (ABackend.d x :: capD caps) bs (fun d => d = bln (p x))) :
 PureB Tryz.prog 238 [.pd (.slice (rows ABackend.pd l)), .fn g caps] bs (fun d => d = bln (l.any p)) := by
 refine pureB_of_run follows an_z7rwg Tryz.func238 rfl ok_z7rwg.1 ok_z7rwg.2 (by simp [Tryz.ntmps238]) ?_
 rw [run_start]
 simp only [ac_z7rwg, go_sem, contS_seq, simprocAttr, rows_len]
 refine (IndexFunc_Backend p g he caps bs hc l hl hp).callW (enters_of Tryz.func266 rfl rfl) _ (idr bs) hc.ok hc.two hc.see ?_
 rintro d rfl
 simp only [go_sem, contS_seq, simprocAttr]
 simp only [retK, resD, retL, oneD, simprocAttr, Tryz.results238]
 exact ⟨_, rfl, rfl, congrArg bln (lidx_any p l)⟩

theorem ContainsP_Need (p : ANeed → Bool) (f : FuncId) (he : Enters Tryz.prog f) (l : List ANeed) (hl : l.length ≤ 1000000) (hp : ∀ x ∈ l, Pure Tryz.prog f [ANeed.d x] (fun d => d = bln (p x))) :
 Pure Tryz.prog 215 [.pd (.slice (rows ANeed.pd l)), .fn f []] (fun d => d = bln (l.any p)) :=
 (ContainsFunc_Need p f he [] [] (Cl.of rfl rfl rfl rfl rfl) l hl (fun x hx => (hp x hx).pureB rfl)).pure

theorem ContainsP_string (p : ByteArray → Bool) (f : FuncId) (he : Enters Tryz.prog f) (l : List ByteArray) (hl : l.length ≤ 1000000) (hp : ∀ x ∈ l, Pure Tryz.prog f [str x] (fun d => d = bln (p x))) :
 Pure Tryz.prog 186 [.pd (.slice (rows cStr l)), .fn f []] (fun d => d = bln (l.any p)) :=
 (ContainsFunc_string p f he [] [] (Cl.of rfl rfl rfl rfl rfl) l hl (fun x hx => (hp x hx).pureB rfl)).pure

theorem ContainsP_Pair (p : APair → Bool) (f : FuncId) (he : Enters Tryz.prog f) (l : List APair) (hl : l.length ≤ 1000000) (hp : ∀ x ∈ l, Pure Tryz.prog f [APair.d x] (fun d => d = bln (p x))) :
 Pure Tryz.prog 229 [.pd (.slice (rows APair.pd l)), .fn f []] (fun d => d = bln (l.any p)) :=
 (ContainsFunc_Pair p f he [] [] (Cl.of rfl rfl rfl rfl rfl) l hl (fun x hx => (hp x hx).pureB rfl)).pure


theorem every_int_1 (p : Int → Bool) (f : FuncId) (he : Enters Tryz.prog f) (x : Int) (hp : Pure Tryz.prog f [int x] (fun d => d = bln (p x))) :
 PureB Tryz.prog 176 [int x, .ptr 1000001 0] [(1000001, [.fn f []])] (fun d => d = bln (!p x)) := by
 refine pureB_of_run follows an_zkvy2 Tryz.func176 rfl ok_zkvy2.1 ok_zkvy2.2 (by simp [Tryz.ntmps176]) ?_
 rw [run_start]
 simp only [ac_zkvy2, go_sem, contS_seq, simprocAttr]
 refine hp.callW he _ rfl rfl ?_
 rintro d rfl
 simp only [go_sem, contS_seq, simprocAttr]
 simp only [retK, resD, retL, oneD, simprocAttr, Tryz.results176]
 exact ⟨_, rfl, rfl, rfl⟩

theorem every_int (p : Int → Bool) (f : FuncId) (he : Enters Tryz.prog f) (l : List Int) (hl : l.length ≤ 1000000) (n : Int) (hp : ∀ x ∈ l, Pure Tryz.prog f [int x] (fun d => d = bln (p x))) :
 Pure Tryz.prog 125 [.pd (.slice (rows cInt l)), int n, .fn f []] (fun d => d = bln (every p l n)) := by
 refine pure_of_run follows an_z5yno Tryz.func125 rfl ok_z5yno.1 ok_z5yno.2 (by simp [Tryz.ntmps125]) ?_
 rw [run_start]
 simp only [ac_z5yno, go_sem, contS_seq, simprocAttr, rows_len]
 refine GifP.mk (fun h => ?_) (fun h => ?_)
 ·refine (ContainsFunc_int (fun x => !p x) 176 (enters_of Tryz.func176 rfl rfl) [(1000001, 0)] [(1000001, [.fn f []])] (Cl.of rfl rfl rfl rfl rfl) l hl (fun x hx => every_int_1 p f he x (hp x hx))).callW (enters_of Tryz.func175 rfl rfl) _ [(5, 1000001)] rfl rfl rfl ?_
  rintro d rfl
  simp only [go_sem, contS_seq, simprocAttr]
  simp only [retK, resD, retL, oneD, simprocAttr, Tryz.results125]
  exact ⟨_, rfl, rfl, congrArg bln (by simp [every, h, List.all_eq_not_any_not])⟩
 ·simp only [retK, resD, retL, oneD, simprocAttr, Tryz.results125]
  exact ⟨_, rfl, rfl, congrArg bln (by simp [every, h])⟩

theorem every_Listener_1 (p : AListener → Bool) (f : FuncId) (he : Enters Tryz.prog f) (x : AListener) (hp : Pure Tryz.prog f [AListener.d x] (fun d => d = bln (p x))) :
 PureB Tryz.prog 180 [AListener.d x, .ptr 1000001 0] [(1000001, [.fn f []])] (fun d => d = bln (!p x)) := by
 refine pureB_of_run follows an_zir97 Tryz.func180 rfl ok_zir97.1 ok_zir97.2 (by simp [Tryz.ntmps180]) ?_
 rw [run_start]
 simp only [ac_zir97, go_sem, contS_seq, simprocAttr]
 refine hp.callW he _ rfl rfl ?_
 rintro d rfl
 simp only [go_sem, contS_seq, simprocAttr]
 simp only [retK, resD, retL, oneD, simprocAttr, Tryz.results180]
 exact ⟨_, rfl, rfl, rfl⟩

theorem every_Listener (p : AListener → Bool) (f : FuncId) (he : Enters Tryz.prog f) (l : List AListener) (hl : l.length ≤ 1000000) (n : Int) (hp : ∀ x ∈ l, Pure Tryz.prog f [AListener.d x] (fun d => d = bln (p x))) :
 Pure Tryz.prog 131 [.pd (.slice (rows AListener.pd l)), int n, .fn f []] (fun d => d = bln (every p l n)) := by
 refine pure_of_run follows an_zpo9w Tryz.func131 rfl ok_zpo9w.1 ok_zpo9w.2 (by simp [Tryz.ntmps131]) ?_
 rw [run_start]
 simp only [ac_zpo9w, go_sem, contS_seq, simprocAttr, rows_len]
 refine GifP.mk (fun h => ?_) (fun h => ?_)
 ·refine (ContainsFunc_Listener (fun x => !p x) 180 (enters_of Tryz.func180 rfl rfl) [(1000001, 0)] [(1000001, [.fn f []])] (Cl.of rfl rfl rfl rfl rfl) l hl (fun x hx => every_Listener_1 p f he x (hp x hx))).callW (enters_of Tryz.func179 rfl rfl) _ [(5, 1000001)] rfl rfl rfl ?_
  rintro d rfl
  simp only [go_sem, contS_seq, simprocAttr]
  simp only [retK, resD, retL, oneD, simprocAttr, Tryz.results131]
  exact ⟨_, rfl, rfl, congrArg bln (by simp [every, h, List.all_eq_not_any_not])⟩
 ·simp only [retK, resD, retL, oneD, simprocAttr, Tryz.results131]
  exact ⟨_, rfl, rfl, congrArg bln (by simp [every, h])⟩

theorem every_Parent_1 (p : AParent → Bool) (f : FuncId) (he : Enters Tryz.prog f) (x : AParent) (hp : Pure Tryz.prog f [AParent.d x] (fun d => d = bln (p x))) :
 PureB Tryz.prog 189 [AParent.d x, .ptr 1000001 0] [(1000001, [.fn f []])] (fun d => d = bln (!p x)) := by
 refine pureB_of_run follows an_z31hg Tryz.func189 rfl ok_z31hg.1 ok_z31hg.2 (by simp [Tryz.ntmps189]) ?_
 rw [run_start]
 simp only [ac_z31hg, go_sem, contS_seq, simprocAttr]
 refine hp.callW he _ rfl rfl ?_
 rintro d rfl
 simp only [go_sem, contS_seq, simprocAttr]
 simp only [retK, resD, retL, oneD, simprocAttr, Tryz.results189]
 exact ⟨_, rfl, rfl, rfl⟩

theorem every_Parent (p : AParent → Bool) (f : FuncId) (he : Enters Tryz.prog f) (l : List AParent) (hl : l.length ≤ 1000000) (n : Int) (hp : ∀ x ∈ l, Pure Tryz.prog f [AParent.d x] (fun d => d = bln (p x))) :
 Pure Tryz.prog 140 [.pd (.slice (rows AParent.pd l)), int n, .fn f []] (fun d => d = bln (every p l n)) := by
 refine pure_of_run follows an_zblzf Tryz.func140 rfl ok_zblzf.1 ok_zblzf.2 (by simp [Tryz.ntmps140]) ?_
 rw [run_start]
 simp only [ac_zblzf, go_sem, contS_seq, simprocAttr, rows_len]
 refine GifP.mk (fun h => ?_) (fun h => ?_)
 ·refine (ContainsFunc_Parent (fun x => !p x) 189 (enters_of Tryz.func189 rfl rfl) [(1000001, 0)] [(1000001, [.fn f []])] (Cl.of rfl rfl rfl rfl rfl) l hl (fun x hx => every_Parent_1 p f he x (hp x hx))).callW (enters_of Tryz.func184 rfl rfl) _ [(5, 1000001)] rfl rfl rfl ?_
  rintro d rfl
  simp only [go_sem, contS_seq, simprocAttr]
  simp only [retK, resD, retL, oneD, simprocAttr, Tryz.results140]
  exact ⟨_, rfl, rfl, congrArg bln (by simp [every, h, List.all_eq_not_any_not])⟩
 ·simp only [retK, resD, retL, oneD, simprocAttr, Tryz.results140]
  exact ⟨_, rfl, rfl, congrArg bln (by simp [every, h])⟩

theorem every_string_1 (p : ByteArray → Bool) (f : FuncId) (he : Enters Tryz.prog f) (x : ByteArray) (hp : Pure Tryz.prog f [str x] (fun d => d = bln (p x))) :
 PureB Tryz.prog 190 [str x, .ptr 1000001 0] [(1000001, [.fn f []])] (fun d => d = bln (!p x)) := by
 refine pureB_of_run follows an_z1wya Tryz.func190 rfl ok_z1wya.1 ok_z1wya.2 (by simp [Tryz.ntmps190]) ?_
 rw [run_start]
 simp only [ac_z1wya, go_sem, contS_seq, simprocAttr]
 refine hp.callW he _ rfl rfl ?_
 rintro d rfl
 simp only [go_sem, contS_seq, simprocAttr]
 simp only [retK, resD, retL, oneD, simprocAttr, Tryz.results190]
 exact ⟨_, rfl, rfl, rfl⟩

theorem every_string (p : ByteArray → Bool) (f : FuncId) (he : Enters Tryz.prog f) (l : List ByteArray) (hl : l.length ≤ 1000000) (n : Int) (hp : ∀ x ∈ l, Pure Tryz.prog f [str x] (fun d => d = bln (p x))) :
 Pure Tryz.prog 142 [.pd (.slice (rows cStr l)), int n, .fn f []] (fun d => d = bln (every p l n)) := by
 refine pure_of_run follows an_zch4 Tryz.func142 rfl ok_zch4.1 ok_zch4.2 (by simp [Tryz.ntmps142]) ?_
 rw [run_start]
 simp only [ac_zch4, go_sem, contS_seq, simprocAttr, rows_len]
 refine GifP.mk (fun h => ?_) (fun h => ?_)
 ·refine (ContainsFunc_string (fun x => !p x) 190 (enters_of Tryz.func190 rfl rfl) [(1000001, 0)] [(1000001, [.fn f []])] (Cl.of rfl rfl rfl rfl rfl) l hl (fun x hx => every_string_1 p f he x (hp x hx))).callW (enters_of Tryz.func186 rfl rfl) _ [(5, 1000001)] rfl rfl rfl ?_
  rintro d rfl
  simp only [go_sem, contS_seq, simprocAttr]
  simp only [retK, resD, retL, oneD, simprocAttr, Tryz.results142]
  exact ⟨_, rfl, rfl, congrArg bln (by simp [every, h, List.all_eq_not_any_not])⟩
 ·simp only [retK, resD, retL, oneD, simprocAttr, Tryz.results142]
  exact ⟨_, rfl, rfl, congrArg bln (by simp [every, h])⟩

theorem every_Rule_1 (p : ARule → Bool) (f : FuncId) (he : Enters Tryz.prog f) (x : ARule) (hp : Pure Tryz.prog f [ARule.d x] (fun d => d = bln (p x))) :
 PureB Tryz.prog 192 [ARule.d x, .ptr 1000001 0] [(1000001, [.fn f []])] (fun d => d = bln (!p x)) := by
 refine pureB_of_run follows an_z8keb Tryz.func192 rfl ok_z8keb.1 ok_z8keb.2 (by simp [Tryz.ntmps192]) ?_
 rw [run_start]
 simp only [ac_z8keb, go_sem, contS_seq, simprocAttr]
 refine hp.callW he _ rfl rfl ?_
 rintro d rfl
 simp only [go_sem, contS_seq, simprocAttr]
 simp only [retK, resD, retL, oneD, simprocAttr, Tryz.results192]
 exact ⟨_, rfl, rfl, rfl⟩

theorem every_Rule (p : ARule → Bool) (f : FuncId) (he : Enters Tryz.prog f) (l : List ARule) (hl : l.length ≤ 1000000) (n : Int) (hp : ∀ x ∈ l, Pure Tryz.prog f [ARule.d x] (fun d => d = bln (p x))) :
 Pure Tryz.prog 143 [.pd (.slice (rows ARule.pd l)), int n, .fn f []] (fun d => d = bln (every p l n)) := by
 refine pure_of_run follows an_z2qr7 Tryz.func143 rfl ok_z2qr7.1 ok_z2qr7.2 (by simp [Tryz.ntmps143]) ?_
 rw [run_start]
 simp only [ac_z2qr7, go_sem, contS_seq, simprocAttr, rows_len]
 refine GifP.mk (fun h => ?_) (fun h => ?_)
 ·refine (ContainsFunc_Rule (fun x => !p x) 192 (enters_of Tryz.func192 rfl rfl) [(1000001, 0)] [(1000001, [.fn f []])] (Cl.of rfl rfl rfl rfl rfl) l hl (fun x hx => every_Rule_1 p f he x (hp x hx))).callW (enters_of Tryz.func191 rfl rfl) _ [(5, 1000001)] rfl rfl rfl ?_
  rintro d rfl
  simp only [go_sem, contS_seq, simprocAttr]
  simp only [retK, resD, retL, oneD, simprocAttr, Tryz.results143]
  exact ⟨_, rfl, rfl, congrArg bln (by simp [every, h, List.all_eq_not_any_not])⟩
 ·simp only [retK, resD, retL, oneD, simprocAttr, Tryz.results143]
  exact ⟨_, rfl, rfl, congrArg bln (by simp [every, h])⟩

theorem every_Side_1 (p : ASide → Bool) (f : FuncId) (he : Enters Tryz.prog f) (x : ASide) (hp : Pure Tryz.prog f [ASide.d x] (fun d => d = bln (p x))) :
 PureB Tryz.prog 199 [ASide.d x, .ptr 1000001 0] [(1000001, [.fn f []])] (fun d => d = bln (!p x)) := by
 refine pureB_of_run follows an_z7q8a Tryz.func199 rfl ok_z7q8a.1 ok_z7q8a.2 (by simp [Tryz.ntmps199]) ?_
 rw [run_start]
 simp only [ac_z7q8a, go_sem, contS_seq, simprocAttr]
 refine hp.callW he _ rfl rfl ?_
 rintro d rfl
 simp only [go_sem, contS_seq, simprocAttr]
 simp only [retK, resD, retL, oneD, simprocAttr, Tryz.results199]
 exact ⟨_, rfl, rfl, rfl⟩

theorem every_Side (p : ASide → Bool) (f : FuncId) (he : Enters Tryz.prog f) (l : List ASide) (hl : l.length ≤ 1000000) (n : Int) (hp : ∀ x ∈ l, Pure Tryz.prog f [ASide.d x] (fun d => d = bln (p x))) :
 Pure Tryz.prog 147 [.pd (.slice (rows ASide.pd l)), int n, .fn f []] (fun d => d = bln (every p l n)) := by
 refine pure_of_run follows an_zqdfu Tryz.func147 rfl ok_zqdfu.1 ok_zqdfu.2 (by simp [Tryz.ntmps147]) ?_
 rw [run_start]
 simp only [ac_zqdfu, go_sem, contS_seq, simprocAttr, rows_len]
 refine GifP.mk (fun h => ?_) (fun h => ?_)
 ·refine (ContainsFunc_Side (fun x => !p x) 199 (enters_of Tryz.func199 rfl rfl) [(1000001, 0)] [(1000001, [.fn f []])] (Cl.of rfl rfl rfl rfl rfl) l hl (fun x hx => every_Side_1 p f he x (hp x hx))).callW (enters_of Tryz.func198 rfl rfl) _ [(5, 1000001)] rfl rfl rfl ?_
  rintro d rfl
  simp only [go_sem, contS_seq, simprocAttr]
  simp only [retK, resD, retL, oneD, simprocAttr, Tryz.results147]
  exact ⟨_, rfl, rfl, congrArg bln (by simp [every, h, List.all_eq_not_any_not])⟩
 ·simp only [retK, resD, retL, oneD, simprocAttr, Tryz.results147]
  exact ⟨_, rfl, rfl, congrArg bln (by simp [every, h])⟩

theorem every_Match_1 (p : AMatch → Bool) (f : FuncId) (he : Enters Tryz.prog f) (x : AMatch) (hp : Pure Tryz.prog f [AMatch.d x] (fun d => d = bln (p x))) :
 PureB Tryz.prog 223 [AMatch.d x, .ptr 1000001 0] [(1000001, [.fn f []])] (fun d => d = bln (!p x)) := by
 refine pureB_of_run follows an_z7wca Tryz.func223 rfl ok_z7wca.1 ok_z7wca.2 (by simp [Tryz.ntmps223]) ?_
 rw [run_start]
 simp only [ac_z7wca, go_sem, contS_seq, simprocAttr]
 refine hp.callW he _ rfl rfl ?_
 rintro d rfl
 simp only [go_sem, contS_seq, simprocAttr]
 simp only [retK, resD, retL, oneD, simprocAttr, Tryz.results223]
 exact ⟨_, rfl, rfl, rfl⟩

theorem every_Match (p : AMatch → Bool) (f : FuncId) (he : Enters Tryz.prog f) (l : List AMatch) (hl : l.length ≤ 1000000) (n : Int) (hp : ∀ x ∈ l, Pure Tryz.prog f [AMatch.d x] (fun d => d = bln (p x))) :
 Pure Tryz.prog 193 [.pd (.slice (rows AMatch.pd l)), int n, .fn f []] (fun d => d = bln (every p l n)) := by
 refine pure_of_run follows an_ziqd0 Tryz.func193 rfl ok_ziqd0.1 ok_ziqd0.2 (by simp [Tryz.ntmps193]) ?_
 rw [run_start]
 simp only [ac_ziqd0, go_sem, contS_seq, simprocAttr, rows_len]
 refine GifP.mk (fun h => ?_) (fun h => ?_)
 ·refine (ContainsFunc_Match (fun x => !p x) 223 (enters_of Tryz.func223 rfl rfl) [(1000001, 0)] [(1000001, [.fn f []])] (Cl.of rfl rfl rfl rfl rfl) l hl (fun x hx => every_Match_1 p f he x (hp x hx))).callW (enters_of Tryz.func222 rfl rfl) _ [(5, 1000001)] rfl rfl rfl ?_
  rintro d rfl
  simp only [go_sem, contS_seq, simprocAttr]
  simp only [retK, resD, retL, oneD, simprocAttr, Tryz.results193]
  exact ⟨_, rfl, rfl, congrArg bln (by simp [every, h, List.all_eq_not_any_not])⟩
 ·simp only [retK, resD, retL, oneD, simprocAttr, Tryz.results193]
  exact ⟨_, rfl, rfl, congrArg bln (by simp [every, h])⟩

theorem every_Backend_1 (p : ABackend → Bool) (f : FuncId) (he : Enters Tryz.prog f) (x : ABackend) (hp : Pure Tryz.prog f [ABackend.d x] (fun d => d = bln (p x))) :
 PureB Tryz.prog 239 [ABackend.d x, .ptr 1000001 0] [(1000001, [.fn f []])] (fun d => d = bln (!p x)) := by
 refine pureB_of_run follows an_zi55u Tryz.func239 rfl ok_zi55u.1 ok_zi55u.2 (by simp [Tryz.ntmps239]) ?_
 rw [run_start]
 simp only [ac_zi55u, go_sem, contS_seq, simprocAttr]
 refine hp.callW he _ rfl rfl ?_
 rintro d rfl
 simp only [go_sem, contS_seq, simprocAttr]
 simp only [retK, resD, retL, oneD, simprocAttr, Tryz.results239]
 exact ⟨_, rfl, rfl, rfl⟩

theorem every_Backend (p : ABackend → Bool) (f : FuncId) (he : Enters Tryz.prog f) (l : List ABackend) (hl : l.length ≤ 1000000) (n : Int) (hp : ∀ x ∈ l, Pure Tryz.prog f [ABackend.d x] (fun d => d = bln (p x))) :
 Pure Tryz.prog 196 [.pd (.slice (rows ABackend.pd l)), int n, .fn f []] (fun d => d = bln (every p l n)) := by
 refine pure_of_run follows an_zb5o4 Tryz.func196 rfl ok_zb5o4.1 ok_zb5o4.2 (by simp [Tryz.ntmps196]) ?_
 rw [run_start]
 simp only [ac_zb5o4, go_sem, contS_seq, simprocAttr, rows_len]
 refine GifP.mk (fun h => ?_) (fun h => ?_)
 ·refine (ContainsFunc_Backend (fun x => !p x) 239 (enters_of Tryz.func239 rfl rfl) [(1000001, 0)] [(1000001, [.fn f []])] (Cl.of rfl rfl rfl rfl rfl) l hl (fun x hx => every_Backend_1 p f he x (hp x hx))).callW (enters_of Tryz.func238 rfl rfl) _ [(5, 1000001)] rfl rfl rfl ?_
  rintro d rfl
  simp only [go_sem, contS_seq, simprocAttr]
  simp only [retK, resD, retL, oneD, simprocAttr, Tryz.results196]
  exact ⟨_, rfl, rfl, congrArg bln (by simp [every, h, List.all_eq_not_any_not])⟩
 ·simp only [retK, resD, retL, oneD, simprocAttr, Tryz.results196]
  exact ⟨_, rfl, rfl, congrArg bln (by simp [every, h])⟩

theorem twice_int_1 (q : Int → Int → Bool) (f : FuncId) (he : Enters Tryz.prog f) (x y : Int) (hp : Pure Tryz.prog f [int x, int y] (fun d => d = bln (q x y))) :
 PureB Tryz.prog 178 [int y, .ptr 1000001 0, .ptr 1000002 0] [(1000001, [.fn f []]), (1000002, [int x])] (fun d => d = bln (q x y)) := by
 refine pureB_of_run follows an_zovpw Tryz.func178 rfl ok_zovpw.1 ok_zovpw.2 (by simp [Tryz.ntmps178]) ?_
 rw [run_start]
 simp only [ac_zovpw, go_sem, contS_seq, simprocAttr]
 refine hp.callW he _ rfl rfl ?_
 rintro d rfl
 simp only [go_sem, contS_seq, simprocAttr]
 simp only [retK, resD, retL, oneD, simprocAttr, Tryz.results178]
 exact ⟨_, rfl, rfl, rfl⟩

theorem twice_int (q : Int → Int → Bool) (f : FuncId) (he : Enters Tryz.prog f) (l : List Int) (hl : l.length ≤ 1000000) (hp : ∀ x ∈ l, ∀ y ∈ l, Pure Tryz.prog f [int x, int y] (fun d => d = bln (q x y))) :
 Pure Tryz.prog 128 [.pd (.slice (rows cInt l)), .fn f []] (fun d => d = bln (twice q l)) := by
 refine pure_of_run follows an_zb3kh Tryz.func128 rfl ok_zb3kh.1 ok_zb3kh.2 (by simp [Tryz.ntmps128]) ?_
 rw [run_start]
 simp only [ac_zb3kh, go_sem, contS_seq, simprocAttr, rows_len]
 refine loopS (fun k st => ∃ i : Nat, k = l.length - i ∧ i ≤ l.length ∧ twiceFrom q l k i = twice q l ∧
  st = ⟨[(0, .pd (.slice (rows cInt l))), (3, .ptr 3 0), (7, .pd (.slice (rows cInt l))), (8, int l.length), (9, int i)], [(3, [.fn f []])], [], .no⟩) l.length _ (Weak.refl _ _) ⟨0, rfl, Nat.zero_le _, rfl, rfl⟩ ?_
 rintro k st ⟨i, rfl, hi, hr, rfl⟩
 by_cases hlt : i < l.length
 ·obtain ⟨x, hx⟩ := at_lt hlt
  have hlt' : ((i : Int) < (l.length : Int)) = True := eq_true (by omega)
  have hle : (i ≤ l.length) = True := eq_true (by omega)
  have hw := i64_succ (show i < 1000000000 by omega)
  have hmx := List.mem_of_getElem? hx
  obtain ⟨m, hm⟩ : ∃ m, l.length - i = m + 1 := ⟨l.length - i - 1, by omega⟩
  rw [hm, twiceFrom, hx] at hr
  have hrows : rowsOK 1 (rows cInt l) = True := rowsOK_rows (f := cInt) (n := 1) (fun _ => rfl) l
  have htk : (rows cInt l).take i = rows cInt (l.take i) := by simp [rows, List.map_take]
  simp only [go_sem, contS_seq, simprocAttr, hlt', rows_get hx, rows_len, hrows, hle, htk]
  refine (ContainsFunc_int (fun y => q x y) 178 (enters_of Tryz.func178 rfl rfl) [(1000001, 0), (1000002, 0)] [(1000001, [.fn f []]), (1000002, [int x])] (Cl.of rfl rfl rfl rfl rfl) (l.take i) (by simp; omega)
   (fun y hy => twice_int_1 q f he x y (hp x hmx y (List.mem_of_mem_take hy)))).callW (enters_of Tryz.func175 rfl rfl) _ [(3, 1000001), (6, 1000002)] rfl rfl rfl ?_
  rintro d rfl
  simp only [go_sem, contS_seq, simprocAttr, hw]
  refine Gif.mk (fun h => ?_) (fun h => ?_)
  ·simp only [h, Bool.true_or] at hr
   simp only [retK, resD, retL, oneD, simprocAttr, Tryz.results128]
   exact ⟨_, rfl, rfl, congrArg bln hr⟩
  ·simp only [h, Bool.false_or] at hr
   refine ⟨m, _, ?_, ?_, i + 1, ?_, ?_, hr, rfl⟩
   ·omega
   ·exact lessA
   ·omega
   ·omega
 ·have hlt' : ((i : Int) < (l.length : Int)) = False := eq_false (by omega)
  rw [show l.length - i = 0 by omega, twiceFrom] at hr
  simp only [go_sem, contS_seq, simprocAttr, rows_len, hlt']
  simp only [retK, resD, retL, oneD, simprocAttr, Tryz.results128]
  exact ⟨_, rfl, rfl, congrArg bln hr⟩

theorem twice_Listener_1 (q : AListener → AListener → Bool) (f : FuncId) (he : Enters Tryz.prog f) (x y : AListener) (hp : Pure Tryz.prog f [AListener.d x, AListener.d y] (fun d => d = bln (q x y))) :
 PureB Tryz.prog 183 [AListener.d y, .ptr 1000001 0, .ptr 1000002 0] [(1000001, [.fn f []]), (1000002, AListener.ds x)] (fun d => d = bln (q x y)) := by
 refine pureB_of_run follows an_ztyjm Tryz.func183 rfl ok_ztyjm.1 ok_ztyjm.2 (by simp [Tryz.ntmps183]) ?_
 rw [run_start]
 simp only [ac_ztyjm, go_sem, contS_seq, simprocAttr]
 refine hp.callW he _ rfl rfl ?_
 rintro d rfl
 simp only [go_sem, contS_seq, simprocAttr]
 simp only [retK, resD, retL, oneD, simprocAttr, Tryz.results183]
 exact ⟨_, rfl, rfl, rfl⟩

theorem twice_Listener (q : AListener → AListener → Bool) (f : FuncId) (he : Enters Tryz.prog f) (l : List AListener) (hl : l.length ≤ 1000000) (hp : ∀ x ∈ l, ∀ y ∈ l, Pure Tryz.prog f [AListener.d x, AListener.d y] (fun d => d = bln (q x y))) :
 Pure Tryz.prog 133 [.pd (.slice (rows AListener.pd l)), .fn f []] (fun d => d = bln (twice q l)) := by
 refine pure_of_run follows an_zp700 Tryz.func133 rfl ok_zp700.1 ok_zp700.2 (by simp [Tryz.ntmps133]) ?_
 rw [run_start]
 simp only [ac_zp700, go_sem, contS_seq, simprocAttr, rows_len]
 refine loopS (fun k st => ∃ i : Nat, k = l.length - i ∧ i ≤ l.length ∧ twiceFrom q l k i = twice q l ∧
  st = ⟨[(0, .pd (.slice (rows AListener.pd l))), (3, .ptr 3 0), (7, .pd (.slice (rows AListener.pd l))), (8, int l.length), (9, int i)], [(3, [.fn f []])], [], .no⟩) l.length _ (Weak.refl _ _) ⟨0, rfl, Nat.zero_le _, rfl, rfl⟩ ?_
 rintro k st ⟨i, rfl, hi, hr, rfl⟩
 by_cases hlt : i < l.length
 ·obtain ⟨x, hx⟩ := at_lt hlt
  have hlt' : ((i : Int) < (l.length : Int)) = True := eq_true (by omega)
  have hle : (i ≤ l.length) = True := eq_true (by omega)
  have hw := i64_succ (show i < 1000000000 by omega)
  have hmx := List.mem_of_getElem? hx
  obtain ⟨m, hm⟩ : ∃ m, l.length - i = m + 1 := ⟨l.length - i - 1, by omega⟩
  rw [hm, twiceFrom, hx] at hr
  have hrows : rowsOK 9 (rows AListener.pd l) = True := rowsOK_rows (f := AListener.pd) (n := 9) (fun _ => rfl) l
  have htk : (rows AListener.pd l).take i = rows AListener.pd (l.take i) := by simp [rows, List.map_take]
  simp only [go_sem, contS_seq, simprocAttr, hlt', rows_get hx, rows_len, hrows, hle, htk]
  refine (ContainsFunc_Listener (fun y => q x y) 183 (enters_of Tryz.func183 rfl rfl) [(1000001, 0), (1000002, 0)] [(1000001, [.fn f []]), (1000002, AListener.ds x)] (Cl.of rfl rfl rfl rfl rfl) (l.take i) (by simp; omega)
   (fun y hy => twice_Listener_1 q f he x y (hp x hmx y (List.mem_of_mem_take hy)))).callW (enters_of Tryz.func179 rfl rfl) _ [(3, 1000001), (6, 1000002)] rfl rfl rfl ?_
  rintro d rfl
  simp only [go_sem, contS_seq, simprocAttr, hw]
  refine Gif.mk (fun h => ?_) (fun h => ?_)
  ·simp only [h, Bool.true_or] at hr
   simp only [retK, resD, retL, oneD, simprocAttr, Tryz.results133]
   exact ⟨_, rfl, rfl, congrArg bln hr⟩
  ·simp only [h, Bool.false_or] at hr
   refine ⟨m, _, ?_, ?_, i + 1, ?_, ?_, hr, rfl⟩
   ·omega
   ·exact lessA
   ·omega
   ·omega
 ·have hlt' : ((i : Int) < (l.length : Int)) = False := eq_false (by omega)
  rw [show l.length - i = 0 by omega, twiceFrom] at hr
  simp only [go_sem, contS_seq, simprocAttr, rows_len, hlt']
  simp only [retK, resD, retL, oneD, simprocAttr, Tryz.results133]
  exact ⟨_, rfl, rfl, congrArg bln hr⟩

theorem twice_Parent_1 (q : AParent → AParent → Bool) (f : FuncId) (he : Enters Tryz.prog f) (x y : AParent) (hp : Pure Tryz.prog f [AParent.d x, AParent.d y] (fun d => d = bln (q x y))) :
 PureB Tryz.prog 185 [AParent.d y, .ptr 1000001 0, .ptr 1000002 0] [(1000001, [.fn f []]), (1000002, AParent.ds x)] (fun d => d = bln (q x y)) := by
 refine pureB_of_run follows an_z6aq8 Tryz.func185 rfl ok_z6aq8.1 ok_z6aq8.2 (by simp [Tryz.ntmps185]) ?_
 rw [run_start]
 simp only [ac_z6aq8, go_sem, contS_seq, simprocAttr]
 refine hp.callW he _ rfl rfl ?_
 rintro d rfl
 simp only [go_sem, contS_seq, simprocAttr]
 simp only [retK, resD, retL, oneD, simprocAttr, Tryz.results185]
 exact ⟨_, rfl, rfl, rfl⟩

theorem twice_Parent (q : AParent → AParent → Bool) (f : FuncId) (he : Enters Tryz.prog f) (l : List AParent) (hl : l.length ≤ 1000000) (hp : ∀ x ∈ l, ∀ y ∈ l, Pure Tryz.prog f [AParent.d x, AParent.d y] (fun d => d = bln (q x y))) :
 Pure Tryz.prog 134 [.pd (.slice (rows AParent.pd l)), .fn f []] (fun d => d = bln (twice q l)) := by
 refine pure_of_run follows an_zo7vn Tryz.func134 rfl ok_zo7vn.1 ok_zo7vn.2 (by simp [Tryz.ntmps134]) ?_
 rw [run_start]
 simp only [ac_zo7vn, go_sem, contS_seq, simprocAttr, rows_len]
 refine loopS (fun k st => ∃ i : Nat, k = l.length - i ∧ i ≤ l.length ∧ twiceFrom q l k i = twice q l ∧
  st = ⟨[(0, .pd (.slice (rows AParent.pd l))), (3, .ptr 3 0), (7, .pd (.slice (rows AParent.pd l))), (8, int l.length), (9, int i)], [(3, [.fn f []])], [], .no⟩) l.length _ (Weak.refl _ _) ⟨0, rfl, Nat.zero_le _, rfl, rfl⟩ ?_
 rintro k st ⟨i, rfl, hi, hr, rfl⟩
 by_cases hlt : i < l.length
 ·obtain ⟨x, hx⟩ := at_lt hlt
  have hlt' : ((i : Int) < (l.length : Int)) = True := eq_true (by omega)
  have hle : (i ≤ l.length) = True := eq_true (by omega)
  have hw := i64_succ (show i < 1000000000 by omega)
  have hmx := List.mem_of_getElem? hx
  obtain ⟨m, hm⟩ : ∃ m, l.length - i = m + 1 := ⟨l.length - i - 1, by omega⟩
  rw [hm, twiceFrom, hx] at hr
  have hrows : rowsOK 4 (rows AParent.pd l) = True := rowsOK_rows (f := AParent.pd) (n := 4) (fun _ => rfl) l
  have htk : (rows AParent.pd l).take i = rows AParent.pd (l.take i) := by simp [rows, List.map_take]
  simp only [go_sem, contS_seq, simprocAttr, hlt', rows_get hx, rows_len, hrows, hle, htk]
  refine (ContainsFunc_Parent (fun y => q x y) 185 (enters_of Tryz.func185 rfl rfl) [(1000001, 0), (1000002, 0)] [(1000001, [.fn f []]), (1000002, AParent.ds x)] (Cl.of rfl rfl rfl rfl rfl) (l.take i) (by simp; omega)
   (fun y hy => twice_Parent_1 q f he x y (hp x hmx y (List.mem_of_mem_take hy)))).callW (enters_of Tryz.func184 rfl rfl) _ [(3, 1000001), (6, 1000002)] rfl rfl rfl ?_
  rintro d rfl
  simp only [go_sem, contS_seq, simprocAttr, hw]
  refine Gif.mk (fun h => ?_) (fun h => ?_)
  ·simp only [h, Bool.true_or] at hr
   simp only [retK, resD, retL, oneD, simprocAttr, Tryz.results134]
   exact ⟨_, rfl, rfl, congrArg bln hr⟩
  ·simp only [h, Bool.false_or] at hr
   refine ⟨m, _, ?_, ?_, i + 1, ?_, ?_, hr, rfl⟩
   ·omega
   ·exact lessA
   ·omega
   ·omega
 ·have hlt' : ((i : Int) < (l.length : Int)) = False := eq_false (by omega)
  rw [show l.length - i = 0 by omega, twiceFrom] at hr
  simp only [go_sem, contS_seq, simprocAttr, rows_len, hlt']
  simp only [retK, resD, retL, oneD, simprocAttr, Tryz.results134]
  exact ⟨_, rfl, rfl, congrArg bln hr⟩

theorem twice_string_1 (q : ByteArray → ByteArray → Bool) (f : FuncId) (he : Enters Tryz.prog f) (x y : ByteArray) (hp : Pure Tryz.prog f [str x, str y] (fun d => d = bln (q x y))) :
 PureB Tryz.prog 187 [str y, .ptr 1000001 0, .ptr 1000002 0] [(1000001, [.fn f []]), (1000002, [str x])] (fun d => d = bln (q x y)) := by
 refine pureB_of_run follows an_zwcip Tryz.func187 rfl ok_zwcip.1 ok_zwcip.2 (by simp [Tryz.ntmps187]) ?_
 rw [run_start]
 simp only [ac_zwcip, go_sem, contS_seq, simprocAttr]
 refine hp.callW he _ rfl rfl ?_
 rintro d rfl
 simp only [go_sem, contS_seq, simprocAttr]
 simp only [retK, resD, retL, oneD, simprocAttr, Tryz.results187]
 exact ⟨_, rfl, rfl, rfl⟩

theorem twice_string (q : ByteArray → ByteArray → Bool) (f : FuncId) (he : Enters Tryz.prog f) (l : List ByteArray) (hl : l.length ≤ 1000000) (hp : ∀ x ∈ l, ∀ y ∈ l, Pure Tryz.prog f [str x, str y] (fun d => d = bln (q x y))) :
 Pure Tryz.prog 136 [.pd (.slice (rows cStr l)), .fn f []] (fun d => d = bln (twice q l)) := by
 refine pure_of_run follows an_zogir Tryz.func136 rfl ok_zogir.1 ok_zogir.2 (by simp [Tryz.ntmps136]) ?_
 rw [run_start]
 simp only [ac_zogir, go_sem, contS_seq, simprocAttr, rows_len]
 refine loopS (fun k st => ∃ i : Nat, k = l.length - i ∧ i ≤ l.length ∧ twiceFrom q l k i = twice q l ∧
  st = ⟨[(0, .pd (.slice (rows cStr l))), (3, .ptr 3 0), (7, .pd (.slice (rows cStr l))), (8, int l.length), (9, int i)], [(3, [.fn f []])], [], .no⟩) l.length _ (Weak.refl _ _) ⟨0, rfl, Nat.zero_le _, rfl, rfl⟩ ?_
 rintro k st ⟨i, rfl, hi, hr, rfl⟩
 by_cases hlt : i < l.length
 ·obtain ⟨x, hx⟩ := at_lt hlt
  have hlt' : ((i : Int) < (l.length : Int)) = True := eq_true (by omega)
  have hle : (i ≤ l.length) = True := eq_true (by omega)
  have hw := i64_succ (show i < 1000000000 by omega)
  have hmx := List.mem_of_getElem? hx
  obtain ⟨m, hm⟩ : ∃ m, l.length - i = m + 1 := ⟨l.length - i - 1, by omega⟩
  rw [hm, twiceFrom, hx] at hr
  have hrows : rowsOK 1 (rows cStr l) = True := rowsOK_rows (f := cStr) (n := 1) (fun _ => rfl) l
  have htk : (rows cStr l).take i = rows cStr (l.take i) := by simp [rows, List.map_take]
  simp only [go_sem, contS_seq, simprocAttr, hlt', rows_get hx, rows_len, hrows, hle, htk]
  refine (ContainsFunc_string (fun y => q x y) 187 (enters_of Tryz.func187 rfl rfl) [(1000001, 0), (1000002, 0)] [(1000001, [.fn f []]), (1000002, [str x])] (Cl.of rfl rfl rfl rfl rfl) (l.take i) (by simp; omega)
   (fun y hy => twice_string_1 q f he x y (hp x hmx y (List.mem_of_mem_take hy)))).callW (enters_of Tryz.func186 rfl rfl) _ [(3, 1000001), (6, 1000002)] rfl rfl rfl ?_
  rintro d rfl
  simp only [go_sem, contS_seq, simprocAttr, hw]
  refine Gif.mk (fun h => ?_) (fun h => ?_)
  ·simp only [h, Bool.true_or] at hr
   simp only [retK, resD, retL, oneD, simprocAttr, Tryz.results136]
   exact ⟨_, rfl, rfl, congrArg bln hr⟩
  ·simp only [h, Bool.false_or] at hr
   refine ⟨m, _, ?_, ?_, i + 1, ?_, ?_, hr, rfl⟩
   ·omega
   ·exact lessA
   ·omega
   ·omega
 ·have hlt' : ((i : Int) < (l.length : Int)) = False := eq_false (by omega)
  rw [show l.length - i = 0 by omega, twiceFrom] at hr
  simp only [go_sem, contS_seq, simprocAttr, rows_len, hlt']
  simp only [retK, resD, retL, oneD, simprocAttr, Tryz.results136]
  exact ⟨_, rfl, rfl, congrArg bln hr⟩

end Go.Proofs.YtjgpdjakehoofaaGreatDoor


