/- Texts of the prover's, joined: DB R1 R2 R3 BV F1 F2 F3 F0 F4 F5 G1 G2. -/
import Derived.Test.YtbjaopoipkphnaaGreatDoorWN4
import Derived.Test.YtbjaopoipkphnaaGreatDoorProg
import Derived.KernelRfl
import Derived.ChangeArms
import Derived.Test.YtbjaopoipkphnaaGreatDoorRows
import Derived.WalkKit
import Derived.ProofKit
import Derived.OpenShut
import Derived.LaidMore
import Derived.Lay
import Derived.Carry
import Derived.SevenTiedAt
import Derived.ChangeOld
import Derived.Below
import Derived.Stop.Joined
import Derived.Lib.Bytealg
import Derived.Lib.Walk
import Derived.BigCall
import Derived.BigGuard
import Derived.Deep.Draws
import Derived.Deep.LoopGhost
import Derived.Lib.ConvBytes
import Derived.Laws.BytesString

namespace Go.Proofs.YtbjaopoipkphnaaGreatDoor
open Go

def ac_zboc8 : AC := (sr [oo 1 (.box 32 (tp 0)),oo 2 (.mv (cq false))] [1] (.seq (sr [fi 6 0 1,oo 7 (.load (some 3) (tp 6)),oo 8 (.call 26 [tp 7]),oo 9 (.un .not (tp 8))] [1,9] (.cond (tp 9) (sr [oo 2 (.mv (cq false))] [2] .ret) .skip)) (sr [fi 10 0 1,oo 11 (.load (some 3) (tp 10)),oo 12 (.build [.pd (.raw (.int .i64 0)),.pd (.raw (.string ⟨#[]⟩)),.pd (.raw (.string ⟨#[]⟩)),.pd (.raw (.bool false)),.nils,.nils,.pd (.raw (.string ⟨#[]⟩)),.nils,.nils,.nils,.nils,.nils,.nils] [(0,3,tp 11)]),oo 3 (.alloc 32 [.pd (.raw (.int .i64 0)),.pd (.raw (.string ⟨#[]⟩)),.pd (.raw (.string ⟨#[]⟩)),.pd (.raw (.bool false)),.nils,.nils,.pd (.raw (.string ⟨#[]⟩)),.nils,.nils,.nils,.nils,.nils,.nils]),.mk none none (.store 13 (tp 3) (tp 12))] [1,3] (sr [oo 4 (.mv (cq true))] [1,3,4] (.seq (sr [fi 13 0 1,fi 14 0 13,lq 15 14] [1,3,4,15] (.block 0 (.seq (sr [oo 17 (.bin .eql (tp 15) (ci 1)),mq 16 17] [1,3,4,15,16] (.cond (tp 16) .skip (.region [oo 18 (.bin .eql (tp 15) (ci 4)),mq 16 18] (some [1,3,4,15,16])))) (.cond (tp 16) (.region [fi 19 3 1,lq 20 19,fi 21 3 3,.mk none none (.store 1 (tp 21) (tp 20))] (some [1,3,4])) (sr [oo 23 (.bin .eql (tp 15) (ci 2)),mq 22 23] [1,3,4,15,22] (.cond (tp 22) (sr [fi 24 4 1,lq 25 24,fi 26 4 3,.mk none none (.store 1 (tp 26) (tp 25))] [1,3] (.region [fi 27 4 1,lq 28 27,oo 29 (.call 40 [tp 28]),mq 4 29] (some [1,3,4]))) (sr [oo 31 (.bin .eql (tp 15) (ci 3)),mq 30 31] [1,3,4,15,30] (.cond (tp 30) (sr [fi 32 5 1,lq 33 32,fi 34 5 3,.mk none none (.store 1 (tp 34) (tp 33))] [1,3] (sr [fi 35 5 1,lq 36 35,oo 37 (.len (tp 36) false),oo 38 (.bin .leq (ci 1) (tp 37)),mq 39 38,og 39 true 40 (.fieldA 5 (tp 1)),og 39 true 41 (.load none (tp 40)),og 39 true 42 (.len (tp 41) false),og 39 true 43 (.bin .leq (tp 42) (ci 8)),oo 44 (.pick (tp 39) (tp 43) (cq false)),mq 4 44] [1,3,4] (sr [oo 5 (.mv (ci 0))] [1,3,4,5] (.block 1 (.loop (.seq (sr [mq 45 5,fi 46 5 1,lq 47 46,oo 48 (.len (tp 47) false),oo 49 (.bin .lss (tp 45) (tp 48))] [1,3,4,5,49] (.cond (tp 49) .skip (.exit 1))) (.seq (.block 2 (.draw [mq 52 4,mq 53 52,og 53 true 54 (.fieldA 5 (tp 1)),og 53 true 55 (.load none (tp 54)),og 53 true 56 (.mv (tp 5)),og 53 true 57 (.idxA 1 (tp 55) (tp 56)),og 53 true 58 (.load none (tp 57)),og 53 true 59 (.call 41 [tp 58]),oo 60 (.pick (tp 53) (tp 59) (cq false)),mq 61 60,og 61 true 62 (.mv (tp 5)),og 61 true 63 (.bin .eql (tp 62) (ci 0)),og 61 true 64 (.mv (tp 63)),og 64 false 65 (.fieldA 5 (tp 1)),og 64 false 66 (.load none (tp 65)),og 64 false 67 (.mv (tp 5)),og 64 false 68 (.bin .sub (tp 67) (ci 1)),og 64 false 69 (.idxA 1 (tp 66) (tp 68)),og 64 false 70 (.load none (tp 69)),og 64 false 71 (.fieldA 5 (tp 1)),og 64 false 72 (.load none (tp 71)),og 64 false 73 (.mv (tp 5)),og 64 false 74 (.idxA 1 (tp 72) (tp 73)),og 64 false 75 (.load none (tp 74)),og 64 false 76 (.bin .lss (tp 70) (tp 75)),og 61 true 77 (.pick (tp 64) (cq true) (tp 76)),oo 78 (.pick (tp 61) (tp 77) (cq false)),mq 4 78] [0,1,3,7,3,31,63,127,255,511,1023,2047,4095,8191,16383,8191,40959,131071,262143,8191,532479,8191,3678207,7872511,16777215,33554431,67108863,134217727] (.take 0 (.take 1 (.take 2 (.take 3 (.take 4 (.take 5 (.take 6 (.alts (.cons 7 true (.take 8 (.take 9 (.take 10 (.take 11 (.take 12 (.take 13 (.take 14 (.take 15 (.take 16 (.take 17 (.take 18 (.take 19 (.take 20 (.take 21 (.take 22 (.take 23 (.take 24 (.take 25 (.take 26 (.take 27 .done)))))))))))))))))))) .nil))))))))) (some [1,3,4,5]))) (.region [mq 50 5,oo 51 (.bin .add (tp 50) (ci 1)),mq 5 51] (some [1,3,4,5]))))))))) (sr [oo 80 (.bin .eql (tp 15) (ci 5)),mq 79 80] [1,3,4,15,79] (.cond (tp 79) (sr [fi 81 6 1,lq 82 81,fi 83 6 3,.mk none none (.store 1 (tp 83) (tp 82))] [1,3] (sr [fi 84 7 1,lq 85 84,fi 86 7 3,.mk none none (.store 1 (tp 86) (tp 85))] [1,3] (.region [oo 87 (.load (some 13) (tp 1)),oo 88 (.call 42 [tp 87]),mq 4 88] (some [1,3,4])))) (sr [oo 90 (.bin .eql (tp 15) (ci 6)),mq 89 90] [1,3,4,15,89] (.cond (tp 89) (sr [fi 91 8 1,lq 92 91,fi 93 8 3,.mk none none (.store 1 (tp 93) (tp 92))] [1,3] (sr [fi 94 9 1,lq 95 94,fi 96 9 3,.mk none none (.store 1 (tp 96) (tp 95))] [1,3] (sr [fi 97 10 1,lq 98 97,fi 99 10 3,.mk none none (.store 1 (tp 99) (tp 98))] [1,3] (.region [oo 100 (.load (some 13) (tp 1)),oo 101 (.call 43 [tp 100]),mq 4 101] (some [1,3,4]))))) (sr [oo 103 (.bin .eql (tp 15) (ci 7)),mq 102 103] [1,3,4,102] (.cond (tp 102) (sr [fi 104 11 1,lq 105 104,fi 106 11 3,.mk none none (.store 1 (tp 106) (tp 105))] [1,3] (sr [fi 107 12 1,lq 108 107,fi 109 12 3,.mk none none (.store 1 (tp 109) (tp 108))] [1,3] (.region [oo 110 (.load (some 13) (tp 1)),oo 111 (.call 44 [tp 110]),mq 4 111] (some [1,3,4])))) .skip)))))))))))))) (sr [mq 112 4,mq 113 112,og 113 true 114 (.load (some 13) (tp 3)),og 113 true 115 (.load (some 13) (tp 1)),og 113 true 116 (.call 14 [tp 114,tp 115]),oo 117 (.pick (tp 113) (tp 116) (cq false)),mq 2 117] [2] .ret))))))
def an_zboc8 : Ann := ann [0,1,2,3,4,5,6,7,8,9,10,11,12,13,14,15,16,18,17,19,20,21,22,23,24,25,26,27,28,29,30,31,32] ac_zboc8
theorem ok_zboc8 : okd Tryz.prog an_zboc8 ac_zboc8 Tryz.f12 := ⟨by kernel_rfl, by kernel_rfl⟩

def ac_zwcd : AC := (sr [oo 2 (.box 32 (tp 0)),oo 3 (.box 32 (tp 1)),oo 4 (.mv (cq false))] [2,3] (.seq (sr [fi 13 0 2,oo 14 (.load (some 3) (tp 13)),fi 15 0 3,oo 16 (.load (some 3) (tp 15)),oo 17 (.eqs true [.int,.str,.str] (tp 14) (tp 16)),mq 18 17,og 18 false 19 (.fieldA 3 (tp 2)),og 18 false 20 (.load none (tp 19)),og 18 false 21 (.fieldA 3 (tp 3)),og 18 false 22 (.load none (tp 21)),og 18 false 23 (.binB true (tp 20) (tp 22)),oo 24 (.pick (tp 18) (cq true) (tp 23)),mq 25 24,og 25 false 26 (.fieldA 6 (tp 2)),og 25 false 27 (.load none (tp 26)),og 25 false 28 (.fieldA 6 (tp 3)),og 25 false 29 (.load none (tp 28)),og 25 false 30 (.bin .neq (tp 27) (tp 29)),oo 31 (.pick (tp 25) (cq true) (tp 30)),mq 32 31,og 32 false 33 (.fieldA 4 (tp 2)),og 32 false 34 (.load none (tp 33)),og 32 false 35 (.fieldA 4 (tp 3)),og 32 false 36 (.load none (tp 35)),og 32 false 37 (.call 54 [tp 34,tp 36]),og 32 false 38 (.un .not (tp 37)),oo 39 (.pick (tp 32) (cq true) (tp 38)),mq 40 39,og 40 false 41 (.fieldA 9 (tp 2)),og 40 false 42 (.load none (tp 41)),og 40 false 43 (.fieldA 9 (tp 3)),og 40 false 44 (.load none (tp 43)),og 40 false 45 (.call 55 [tp 42,tp 44]),og 40 false 46 (.un .not (tp 45)),oo 47 (.pick (tp 40) (cq true) (tp 46))] [2,3,47] (.cond (tp 47) (sr [oo 4 (.mv (cq false))] [4] .ret) .skip)) (.seq (sr [fi 48 5 2,lq 49 48,oo 50 (.len (tp 49) false),fi 51 5 3,lq 52 51,oo 53 (.len (tp 52) false),oo 54 (.bin .neq (tp 50) (tp 53)),mq 55 54,og 55 false 56 (.fieldA 7 (tp 2)),og 55 false 57 (.load none (tp 56)),og 55 false 58 (.len (tp 57) false),og 55 false 59 (.fieldA 7 (tp 3)),og 55 false 60 (.load none (tp 59)),og 55 false 61 (.len (tp 60) false),og 55 false 62 (.bin .neq (tp 58) (tp 61)),oo 63 (.pick (tp 55) (cq true) (tp 62)),mq 64 63,og 64 false 65 (.fieldA 8 (tp 2)),og 64 false 66 (.load none (tp 65)),og 64 false 67 (.len (tp 66) false),og 64 false 68 (.fieldA 8 (tp 3)),og 64 false 69 (.load none (tp 68)),og 64 false 70 (.len (tp 69) false),og 64 false 71 (.bin .neq (tp 67) (tp 70)),oo 72 (.pick (tp 64) (cq true) (tp 71)),mq 73 72,og 73 false 74 (.fieldA 10 (tp 2)),og 73 false 75 (.load none (tp 74)),og 73 false 76 (.len (tp 75) false),og 73 false 77 (.fieldA 10 (tp 3)),og 73 false 78 (.load none (tp 77)),og 73 false 79 (.len (tp 78) false),og 73 false 80 (.bin .neq (tp 76) (tp 79)),oo 81 (.pick (tp 73) (cq true) (tp 80)),mq 82 81,og 82 false 83 (.fieldA 11 (tp 2)),og 82 false 84 (.load none (tp 83)),og 82 false 85 (.len (tp 84) false),og 82 false 86 (.fieldA 11 (tp 3)),og 82 false 87 (.load none (tp 86)),og 82 false 88 (.len (tp 87) false),og 82 false 89 (.bin .neq (tp 85) (tp 88)),oo 90 (.pick (tp 82) (cq true) (tp 89)),mq 91 90,og 91 false 92 (.fieldA 12 (tp 2)),og 91 false 93 (.load none (tp 92)),og 91 false 94 (.len (tp 93) false),og 91 false 95 (.fieldA 12 (tp 3)),og 91 false 96 (.load none (tp 95)),og 91 false 97 (.len (tp 96) false),og 91 false 98 (.bin .neq (tp 94) (tp 97)),oo 99 (.pick (tp 91) (cq true) (tp 98))] [2,3,99] (.cond (tp 99) (sr [oo 4 (.mv (cq false))] [4] .ret) .skip)) (.seq (sr [oo 5 (.mv (ci 0))] [2,3,5] (.block 0 (.loop (.seq (sr [mq 100 5,fi 101 5 2,lq 102 101,oo 103 (.len (tp 102) false),oo 104 (.bin .lss (tp 100) (tp 103))] [2,3,5,104] (.cond (tp 104) .skip (.exit 0))) (.seq (.block 1 (.seq (.draw [fi 107 5 2,lq 108 107,mq 109 5,oo 110 (.idxA 1 (tp 108) (tp 109)),lq 111 110,fi 112 5 3,lq 113 112,mq 114 5,oo 115 (.idxA 1 (tp 113) (tp 114)),lq 116 115,oo 117 (.bin .neq (tp 111) (tp 116))] [0,1,0,7,15,0,32,0,224,480,1023] (.take 0 (.take 1 (.take 2 (.take 3 (.take 4 (.take 5 (.take 6 (.take 7 (.take 8 (.take 9 (.take 10 .done))))))))))) (some [2,3,5,117])) (.cond (tp 117) (sr [oo 4 (.mv (cq false))] [4] .ret) .skip))) (.region [mq 105 5,oo 106 (.bin .add (tp 105) (ci 1)),mq 5 106] (some [2,3,5]))))))) (.seq (sr [oo 6 (.mv (ci 0))] [2,3,6] (.block 2 (.loop (.seq (sr [mq 118 6,fi 119 7 2,lq 120 119,oo 121 (.len (tp 120) false),oo 122 (.bin .lss (tp 118) (tp 121))] [2,3,6,122] (.cond (tp 122) .skip (.exit 2))) (.seq (.block 3 (.seq (.draw [fi 125 7 2,lq 126 125,mq 127 6,oo 128 (.idxA 9 (tp 126) (tp 127)),oo 129 (.load (some 9) (tp 128)),fi 130 7 3,lq 131 130,mq 132 6,oo 133 (.idxA 9 (tp 131) (tp 132)),oo 134 (.load (some 9) (tp 133)),oo 7 (.alloc 71 [.pd (.raw (.string ⟨#[]⟩)),.pd (.raw (.int .i64 0)),.pd (.raw (.bool false)),.pd (.raw (.string ⟨#[]⟩)),.pd (.raw (.int .i64 0)),.pd (.raw (.string ⟨#[]⟩)),.pd (.raw (.string ⟨#[]⟩)),.pd (.raw (.int .i64 0)),.nils]),oo 8 (.alloc 71 [.pd (.raw (.string ⟨#[]⟩)),.pd (.raw (.int .i64 0)),.pd (.raw (.bool false)),.pd (.raw (.string ⟨#[]⟩)),.pd (.raw (.int .i64 0)),.pd (.raw (.string ⟨#[]⟩)),.pd (.raw (.string ⟨#[]⟩)),.pd (.raw (.int .i64 0)),.nils]),.mk none none (.store 9 (tp 7) (tp 129)),.mk none none (.store 9 (tp 8) (tp 134))] [0,1,0,7,15,0,32,0,224,480,0,0,3103,8191] (.take 0 (.take 1 (.take 2 (.take 3 (.take 4 (.take 5 (.take 6 (.take 7 (.take 8 (.take 9 (.alts (.cons 10 false (.alts (.cons 11 false (.alts (.cons 12 false (.alts (.cons 13 true .done .nil)) .nil)) .nil)) (.cons 11 false (.alts (.cons 10 false (.alts (.cons 12 false (.alts (.cons 13 true .done .nil)) .nil)) .nil)) .nil))))))))))))) (some [2,3,6,7,8])) (sr [fi 135 0 7,lq 136 135,fi 137 0 8,lq 138 137,oo 139 (.bin .neq (tp 136) (tp 138)),mq 140 139,og 140 false 141 (.fieldA 1 (tp 7)),og 140 false 142 (.load none (tp 141)),og 140 false 143 (.fieldA 1 (tp 8)),og 140 false 144 (.load none (tp 143)),og 140 false 145 (.bin .neq (tp 142) (tp 144)),oo 146 (.pick (tp 140) (cq true) (tp 145)),mq 147 146,og 147 false 148 (.fieldA 2 (tp 7)),og 147 false 149 (.load none (tp 148)),og 147 false 150 (.fieldA 2 (tp 8)),og 147 false 151 (.load none (tp 150)),og 147 false 152 (.binB true (tp 149) (tp 151)),oo 153 (.pick (tp 147) (cq true) (tp 152)),mq 154 153,og 154 false 155 (.fieldA 3 (tp 7)),og 154 false 156 (.load none (tp 155)),og 154 false 157 (.fieldA 3 (tp 8)),og 154 false 158 (.load none (tp 157)),og 154 false 159 (.bin .neq (tp 156) (tp 158)),oo 160 (.pick (tp 154) (cq true) (tp 159)),mq 161 160,og 161 false 162 (.fieldA 4 (tp 7)),og 161 false 163 (.load (some 3) (tp 162)),og 161 false 164 (.fieldA 4 (tp 8)),og 161 false 165 (.load (some 3) (tp 164)),og 161 false 166 (.eqs true [.int,.str,.str] (tp 163) (tp 165)),oo 167 (.pick (tp 161) (cq true) (tp 166)),mq 168 167,og 168 false 169 (.fieldA 7 (tp 7)),og 168 false 170 (.load none (tp 169)),og 168 false 171 (.fieldA 7 (tp 8)),og 168 false 172 (.load none (tp 171)),og 168 false 173 (.bin .neq (tp 170) (tp 172)),oo 174 (.pick (tp 168) (cq true) (tp 173)),mq 175 174,og 175 false 176 (.fieldA 8 (tp 7)),og 175 false 177 (.load none (tp 176)),og 175 false 178 (.fieldA 8 (tp 8)),og 175 false 179 (.load none (tp 178)),og 175 false 180 (.call 56 [tp 177,tp 179]),og 175 false 181 (.un .not (tp 180)),oo 182 (.pick (tp 175) (cq true) (tp 181))] [2,3,6,182] (.cond (tp 182) (sr [oo 4 (.mv (cq false))] [4] .ret) .skip)))) (.region [mq 123 6,oo 124 (.bin .add (tp 123) (ci 1)),mq 6 124] (some [2,3,6]))))))) (.seq (sr [oo 9 (.mv (ci 0))] [2,3,9] (.block 4 (.loop (.seq (sr [mq 183 9,fi 184 8 2,lq 185 184,oo 186 (.len (tp 185) false),oo 187 (.bin .lss (tp 183) (tp 186))] [2,3,9,187] (.cond (tp 187) .skip (.exit 4))) (.seq (.block 5 (.seq (.draw [fi 190 8 2,lq 191 190,mq 192 9,oo 193 (.idxA 4 (tp 191) (tp 192)),oo 194 (.load (some 4) (tp 193)),fi 195 8 3,lq 196 195,mq 197 9,oo 198 (.idxA 4 (tp 196) (tp 197)),oo 199 (.load (some 4) (tp 198)),oo 200 (.eqs true [.str,.str,.str,.int] (tp 194) (tp 199))] [0,1,0,7,15,0,32,0,224,480,1023] (.take 0 (.take 1 (.take 2 (.take 3 (.take 4 (.take 5 (.take 6 (.take 7 (.take 8 (.take 9 (.take 10 .done))))))))))) (some [2,3,9,200])) (.cond (tp 200) (sr [oo 4 (.mv (cq false))] [4] .ret) .skip))) (.region [mq 188 9,oo 189 (.bin .add (tp 188) (ci 1)),mq 9 189] (some [2,3,9]))))))) (.seq (sr [oo 10 (.mv (ci 0))] [2,3,10] (.block 6 (.loop (.seq (sr [mq 201 10,fi 202 11 2,lq 203 202,oo 204 (.len (tp 203) false),oo 205 (.bin .lss (tp 201) (tp 204))] [2,3,10,205] (.cond (tp 205) .skip (.exit 6))) (.seq (.block 7 (.seq (.draw [fi 208 11 2,lq 209 208,mq 210 10,oo 211 (.idxA 3 (tp 209) (tp 210)),oo 212 (.load (some 3) (tp 211)),fi 213 11 3,lq 214 213,mq 215 10,oo 216 (.idxA 3 (tp 214) (tp 215)),oo 217 (.load (some 3) (tp 216)),oo 218 (.eqs true [.int,.str,.str] (tp 212) (tp 217))] [0,1,0,7,15,0,32,0,224,480,1023] (.take 0 (.take 1 (.take 2 (.take 3 (.take 4 (.take 5 (.take 6 (.take 7 (.take 8 (.take 9 (.take 10 .done))))))))))) (some [2,3,10,218])) (.cond (tp 218) (sr [oo 4 (.mv (cq false))] [4] .ret) .skip))) (.region [mq 206 10,oo 207 (.bin .add (tp 206) (ci 1)),mq 10 207] (some [2,3,10]))))))) (.seq (sr [oo 11 (.mv (ci 0))] [2,3,11] (.block 8 (.loop (.seq (sr [mq 219 11,fi 220 12 2,lq 221 220,oo 222 (.len (tp 221) false),oo 223 (.bin .lss (tp 219) (tp 222))] [2,3,11,223] (.cond (tp 223) .skip (.exit 8))) (.seq (.block 9 (.seq (.draw [fi 226 12 2,lq 227 226,mq 228 11,oo 229 (.idxA 3 (tp 227) (tp 228)),oo 230 (.load (some 3) (tp 229)),fi 231 12 3,lq 232 231,mq 233 11,oo 234 (.idxA 3 (tp 232) (tp 233)),oo 235 (.load (some 3) (tp 234)),oo 236 (.eqs true [.int,.str,.str] (tp 230) (tp 235))] [0,1,0,7,15,0,32,0,224,480,1023] (.take 0 (.take 1 (.take 2 (.take 3 (.take 4 (.take 5 (.take 6 (.take 7 (.take 8 (.take 9 (.take 10 .done))))))))))) (some [2,3,11,236])) (.cond (tp 236) (sr [oo 4 (.mv (cq false))] [4] .ret) .skip))) (.region [mq 224 11,oo 225 (.bin .add (tp 224) (ci 1)),mq 11 225] (some [2,3,11]))))))) (.seq (sr [oo 12 (.mv (ci 0))] [2,3,12] (.block 10 (.loop (.seq (sr [mq 237 12,fi 238 10 2,lq 239 238,oo 240 (.len (tp 239) false),oo 241 (.bin .lss (tp 237) (tp 240))] [2,3,12,241] (.cond (tp 241) .skip (.exit 10))) (.seq (.block 11 (.seq (.draw [fi 244 10 2,lq 245 244,mq 246 12,oo 247 (.idxA 3 (tp 245) (tp 246)),oo 248 (.load (some 3) (tp 247)),fi 249 10 3,lq 250 249,mq 251 12,oo 252 (.idxA 3 (tp 250) (tp 251)),oo 253 (.load (some 3) (tp 252)),oo 254 (.call 57 [tp 248,tp 253]),oo 255 (.un .not (tp 254))] [0,1,0,7,15,0,32,0,224,480,1023,2047] (.take 0 (.take 1 (.take 2 (.take 3 (.take 4 (.take 5 (.take 6 (.take 7 (.take 8 (.take 9 (.alts (.cons 10 true (.take 11 .done) .nil)))))))))))) (some [2,3,12,255])) (.cond (tp 255) (sr [oo 4 (.mv (cq false))] [4] .ret) .skip))) (.region [mq 242 12,oo 243 (.bin .add (tp 242) (ci 1)),mq 12 243] (some [2,3,12]))))))) (sr [oo 4 (.mv (cq true))] [4] .ret))))))))))
def an_zwcd : Ann := ann [0,1,2,3,4,5,6,8,9,7,10,11,13,14,15,12,16,17,19,20,18,21,22,24,25,23,26,27,29,30,28,31,32,34,35,33,36] ac_zwcd
theorem ok_zwcd : okd Tryz.prog an_zwcd ac_zwcd Tryz.f14 := ⟨by kernel_rfl, by kernel_rfl⟩

def ac_zvzmk : AC := (sr [oo 4 (.mv (cq false))] [0,1] (.seq (sr [mq 6 0,oo 7 (.len (tp 6) false),mq 8 1,oo 9 (.len (tp 8) false),oo 10 (.bin .neq (tp 7) (tp 9))] [0,1,10] (.cond (tp 10) (sr [oo 4 (.mv (cq false))] [4] .ret) .skip)) (.seq (sr [oo 5 (.mv (ci 0))] [0,1,5] (.block 0 (.loop (.seq (sr [mq 11 5,mq 12 0,oo 13 (.len (tp 12) false),oo 14 (.bin .lss (tp 11) (tp 13))] [0,1,5,14] (.cond (tp 14) .skip (.exit 0))) (.seq (.block 1 (.seq (.draw [mq 17 0,mq 18 5,oo 19 (.idxA 3 (tp 17) (tp 18)),oo 20 (.load (some 3) (tp 19)),mq 21 1,mq 22 5,oo 23 (.idxA 3 (tp 21) (tp 22)),oo 24 (.load (some 3) (tp 23)),oo 25 (.eqs true [.int,.str,.str] (tp 20) (tp 24))] [0,0,3,7,0,0,48,112,255] (.take 0 (.take 1 (.take 2 (.take 3 (.take 4 (.take 5 (.take 6 (.take 7 (.take 8 .done))))))))) (some [0,1,5,25])) (.cond (tp 25) (sr [oo 4 (.mv (cq false))] [4] .ret) .skip))) (.region [mq 15 5,oo 16 (.bin .add (tp 15) (ci 1)),mq 5 16] (some [0,1,5]))))))) (sr [oo 4 (.mv (cq true))] [4] .ret))))
def an_zvzmk : Ann := ann [0,1,2,3,4,6,7,5,8] ac_zvzmk
theorem ok_zvzmk : okd Tryz.prog an_zvzmk ac_zvzmk Tryz.f16 := ⟨by kernel_rfl, by kernel_rfl⟩

def ac_zlwv2 : AC := (sr [oo 1 (.box 32 (tp 0)),oo 2 (.mv (.const (.slice none 0 0)))] [1] (.seq (sr [oo 8 (.load (some 13) (tp 1)),oo 9 (.call 12 [tp 8]),oo 10 (.un .not (tp 9))] [1,10] (.cond (tp 10) (sr [oo 2 (.mv (.const (.slice none 0 0)))] [2] .ret) .skip)) (sr [oo 3 (.mv (.const (.slice none 0 0)))] [1,3] (.seq (sr [fi 11 0 1,fi 12 0 11,lq 13 12,oo 14 (.bin .eql (tp 13) (ci 5))] [1,3,14] (.cond (tp 14) (.region [mq 15 3,fi 16 6 1,lq 17 16,oo 18 (.build [.pd (.raw (.int .i64 0)),.pd (.raw (.string ⟨#[]⟩)),.pd (.raw (.string ⟨#[]⟩))] [(0,1,ci 1),(2,1,tp 17)]),oo 19 (.call 62 [tp 15,tp 18]),mq 3 19] (some [1,3])) .skip)) (.seq (sr [oo 4 (.mv (ci 0))] [1,3,4] (.block 0 (.loop (.seq (sr [mq 20 4,fi 21 7 1,lq 22 21,oo 23 (.len (tp 22) false),oo 24 (.bin .lss (tp 20) (tp 23))] [1,3,4,24] (.cond (tp 24) .skip (.exit 0))) (.seq (.block 1 (sr [fi 27 7 1,lq 28 27,mq 29 4,oo 30 (.idxA 9 (tp 28) (tp 29)),fi 31 2 30,lq 32 31] [1,3,4,32] (.cond (tp 32) (.draw [mq 33 3,fi 34 7 1,lq 35 34,mq 36 4,oo 37 (.idxA 9 (tp 35) (tp 36)),fi 38 4 37,oo 39 (.load (some 3) (tp 38)),fi 40 0 1,fi 41 1 40,lq 42 41,oo 43 (.call 63 [tp 39,tp 42]),oo 44 (.call 62 [tp 33,tp 43]),mq 3 44] [0,0,2,0,14,30,62,0,128,384,1022,2047,4095] (.take 0 (.take 1 (.take 2 (.take 3 (.take 4 (.take 5 (.take 6 (.take 7 (.take 8 (.take 9 (.alts (.cons 10 false (.alts (.cons 11 true (.take 12 .done) .nil)) .nil)))))))))))) (some [1,3,4])) .skip))) (.region [mq 25 4,oo 26 (.bin .add (tp 25) (ci 1)),mq 4 26] (some [1,3,4]))))))) (.seq (sr [fi 45 0 1,fi 46 0 45,lq 47 46,oo 48 (.bin .eql (tp 47) (ci 6))] [1,3,48] (.cond (tp 48) (.region [mq 49 3,fi 50 0 1,fi 51 1 50,lq 52 51,oo 53 (.build [.pd (.raw (.int .i64 0)),.pd (.raw (.string ⟨#[]⟩)),.pd (.raw (.string ⟨#[]⟩))] [(0,1,ci 2),(2,1,tp 52)]),oo 54 (.call 62 [tp 49,tp 53]),mq 3 54] (some [1,3])) .skip)) (.seq (sr [oo 5 (.mv (ci 0))] [1,3,5] (.block 2 (.loop (.seq (sr [mq 55 5,fi 56 8 1,lq 57 56,oo 58 (.len (tp 57) false),oo 59 (.bin .lss (tp 55) (tp 58))] [1,3,5,59] (.cond (tp 59) .skip (.exit 2))) (.seq (.block 3 (.draw [mq 62 3,fi 63 8 1,lq 64 63,mq 65 5,oo 66 (.idxA 4 (tp 64) (tp 65)),fi 67 0 66,lq 68 67,fi 69 8 1,lq 70 69,mq 71 5,oo 72 (.idxA 4 (tp 70) (tp 71)),fi 73 1 72,lq 74 73,oo 75 (.build [.pd (.raw (.int .i64 0)),.pd (.raw (.string ⟨#[]⟩)),.pd (.raw (.string ⟨#[]⟩))] [(0,1,ci 5),(1,1,tp 68),(2,1,tp 74)]),fi 76 0 1,fi 77 1 76,lq 78 77,oo 79 (.call 63 [tp 75,tp 78]),oo 80 (.call 62 [tp 62,tp 79]),mq 3 80] [0,0,2,0,14,30,62,0,128,0,896,1920,3968,8190,0,16384,49152,131070,262143,524287] (.take 0 (.take 1 (.take 2 (.take 3 (.take 4 (.take 5 (.take 6 (.take 7 (.take 8 (.take 9 (.take 10 (.take 11 (.take 12 (.take 13 (.take 14 (.take 15 (.take 16 (.alts (.cons 17 false (.alts (.cons 18 true (.take 19 .done) .nil)) .nil))))))))))))))))))) (some [1,3,5]))) (.region [mq 60 5,oo 61 (.bin .add (tp 60) (ci 1)),mq 5 61] (some [1,3,5]))))))) (.seq (sr [oo 6 (.mv (ci 0))] [1,3,6] (.block 4 (.loop (.seq (sr [mq 81 6,fi 82 10 1,lq 83 82,oo 84 (.len (tp 83) false),oo 85 (.bin .lss (tp 81) (tp 84))] [1,3,6,85] (.cond (tp 85) .skip (.exit 4))) (.seq (.block 5 (sr [oo 7 (.mv (ci 0))] [1,3,6,7] (.block 6 (.loop (.seq (sr [mq 88 7,fi 89 10 1,lq 90 89,mq 91 6,oo 92 (.idxA 3 (tp 90) (tp 91)),fi 93 2 92,lq 94 93,oo 95 (.len (tp 94) false),oo 96 (.bin .lss (tp 88) (tp 95))] [1,3,6,7,96] (.cond (tp 96) .skip (.exit 6))) (.seq (.block 7 (.draw [mq 99 3,fi 100 10 1,lq 101 100,mq 102 6,oo 103 (.idxA 3 (tp 101) (tp 102)),fi 104 2 103,lq 105 104,mq 106 7,oo 107 (.idxA 5 (tp 105) (tp 106)),fi 108 0 107,oo 109 (.load (some 3) (tp 108)),fi 110 0 1,fi 111 1 110,lq 112 111,oo 113 (.call 63 [tp 109,tp 112]),oo 114 (.call 62 [tp 99,tp 113]),mq 3 114] [0,0,2,0,14,30,62,0,254,510,1022,0,2048,6144,16382,32767,65535] (.take 0 (.take 1 (.take 2 (.take 3 (.take 4 (.take 5 (.take 6 (.take 7 (.take 8 (.take 9 (.take 10 (.take 11 (.take 12 (.take 13 (.alts (.cons 14 false (.alts (.cons 15 true (.take 16 .done) .nil)) .nil)))))))))))))))) (some [1,3,6,7]))) (.region [mq 97 7,oo 98 (.bin .add (tp 97) (ci 1)),mq 7 98] (some [1,3,6,7])))))))) (.region [mq 86 6,oo 87 (.bin .add (tp 86) (ci 1)),mq 6 87] (some [1,3,6]))))))) (sr [mq 115 3,mq 2 115] [2] .ret)))))))))
def an_zlwv2 : Ann := ann [0,1,2,3,4,5,6,7,9,10,8,11,12,13,14,16,15,17,18,20,21,23,22,19,24] ac_zlwv2
theorem ok_zlwv2 : okd Tryz.prog an_zlwv2 ac_zlwv2 Tryz.f18 := ⟨by kernel_rfl, by kernel_rfl⟩

def ac_zvuu8 : AC := (sr [oo 1 (.box 23 (tp 0)),oo 2 (.mv (cq false))] [1] (.seq (sr [fi 3 0 1,lq 4 3,oo 5 (.bin .lss (tp 4) (ci 1)),mq 6 5,og 6 false 7 (.fieldA 0 (tp 1)),og 6 false 8 (.load none (tp 7)),og 6 false 9 (.bin .gtr (tp 8) (ci 7)),oo 10 (.pick (tp 6) (cq true) (tp 9))] [1,10] (.cond (tp 10) (sr [oo 2 (.mv (cq false))] [2] .ret) .skip)) (.seq (sr [fi 11 0 1,lq 12 11,oo 13 (.bin .lss (tp 12) (ci 3))] [1,13] (.cond (tp 13) (sr [fi 14 1 1,lq 15 14,oo 16 (.bin .eql (tp 15) (.const (.string ⟨#[]⟩))),mq 17 16,og 17 true 18 (.fieldA 0 (tp 1)),og 17 true 19 (.load none (tp 18)),og 17 true 20 (.bin .eql (tp 19) (ci 1)),og 17 true 21 (.mv (tp 20)),og 21 true 22 (.fieldA 2 (tp 1)),og 21 true 23 (.load none (tp 22)),og 21 true 24 (.call 73 [tp 23]),og 17 true 25 (.pick (tp 21) (tp 24) (cq false)),og 17 true 26 (.mv (tp 25)),og 26 false 27 (.fieldA 0 (tp 1)),og 26 false 28 (.load none (tp 27)),og 26 false 29 (.bin .eql (tp 28) (ci 2)),og 26 false 30 (.mv (tp 29)),og 30 true 31 (.fieldA 2 (tp 1)),og 30 true 32 (.load none (tp 31)),og 30 true 33 (.call 74 [tp 32]),og 26 false 34 (.pick (tp 30) (tp 33) (cq false)),og 17 true 35 (.pick (tp 26) (cq true) (tp 34)),oo 36 (.pick (tp 17) (tp 35) (cq false)),mq 2 36] [2] .ret) .skip)) (sr [fi 37 1 1,lq 38 37,oo 39 (.call 74 [tp 38]),mq 40 39,og 40 true 41 (.fieldA 2 (tp 1)),og 40 true 42 (.load none (tp 41)),og 40 true 43 (.call 73 [tp 42]),oo 44 (.pick (tp 40) (tp 43) (cq false)),mq 2 44] [2] .ret))))
def an_zvuu8 : Ann := ann (List.range 6) ac_zvuu8
theorem ok_zvuu8 : okd Tryz.prog an_zvuu8 ac_zvuu8 Tryz.f26 := ⟨by kernel_rfl, by kernel_rfl⟩

def ac_z2cvg : AC := (sr [oo 2 (.box 23 (tp 0)),oo 3 (.box 23 (tp 1)),oo 4 (.mv (ci 0))] [2,3] (.seq (sr [oo 6 (.load (some 3) (tp 2)),oo 7 (.load (some 3) (tp 3)),oo 8 (.eqs false [.int,.str,.str] (tp 6) (tp 7))] [2,3,8] (.cond (tp 8) (sr [oo 4 (.mv (ci 0))] [4] .ret) .skip)) (sr [fi 9 2 2,lq 10 9,fi 11 2 3,lq 12 11,oo 13 (.bin .lss (tp 10) (tp 12)),mq 5 13] [2,3,5] (.seq (sr [fi 14 1 2,lq 15 14,fi 16 1 3,lq 17 16,oo 18 (.bin .neq (tp 15) (tp 17))] [2,3,5,18] (.cond (tp 18) (.region [fi 19 1 2,lq 20 19,fi 21 1 3,lq 22 21,oo 23 (.bin .lss (tp 20) (tp 22)),mq 5 23] (some [2,3,5])) .skip)) (.seq (sr [fi 24 0 2,lq 25 24,fi 26 0 3,lq 27 26,oo 28 (.bin .neq (tp 25) (tp 27))] [2,3,5,28] (.cond (tp 28) (.region [fi 29 0 2,lq 30 29,fi 31 0 3,lq 32 31,oo 33 (.bin .lss (tp 30) (tp 32)),mq 5 33] (some [5])) .skip)) (.seq (sr [mq 34 5] [34] (.cond (tp 34) (sr [oo 4 (.mv (ci (-1)))] [4] .ret) .skip)) (sr [oo 4 (.mv (ci 1))] [4] .ret)))))))
def an_z2cvg : Ann := ann (List.range 11) ac_z2cvg
theorem ok_z2cvg : okd Tryz.prog an_z2cvg ac_z2cvg Tryz.f27 := ⟨by kernel_rfl, by kernel_rfl⟩

def ac_zgvgo : AC := (sr [oo 2 (.mv (cq false))] [0] (.seq (sr [oo 3 (.mv (ci 0))] [0,3] (.block 0 (.loop (.seq (sr [mq 4 3,mq 5 0,oo 6 (.len (tp 5) false),oo 7 (.bin .lss (tp 4) (tp 6))] [0,3,7] (.cond (tp 7) .skip (.exit 0))) (.seq (.block 1 (.seq (.draw [mq 10 0,mq 11 3,oo 12 (.idxA 2 (tp 10) (tp 11)),fi 13 0 12,lq 14 13,oo 15 (.call 73 [tp 14]),oo 16 (.un .not (tp 15)),mq 17 16,og 17 false 18 (.mv (tp 0)),og 17 false 19 (.mv (tp 3)),og 17 false 20 (.idxA 2 (tp 18) (tp 19)),og 17 false 21 (.fieldA 1 (tp 20)),og 17 false 22 (.load none (tp 21)),og 17 false 23 (.call 100 [tp 22]),og 17 false 24 (.un .not (tp 23)),oo 25 (.pick (tp 17) (cq true) (tp 24)),mq 26 25,og 26 false 27 (.mv (tp 3)),og 26 false 28 (.bin .gtr (tp 27) (ci 0)),og 26 false 29 (.mv (tp 28)),og 29 true 30 (.mv (tp 0)),og 29 true 31 (.mv (tp 3)),og 29 true 32 (.idxA 2 (tp 30) (tp 31)),og 29 true 33 (.fieldA 0 (tp 32)),og 29 true 34 (.load none (tp 33)),og 29 true 35 (.mv (tp 0)),og 29 true 36 (.mv (tp 3)),og 29 true 37 (.bin .sub (tp 36) (ci 1)),og 29 true 38 (.idxA 2 (tp 35) (tp 37)),og 29 true 39 (.fieldA 0 (tp 38)),og 29 true 40 (.load none (tp 39)),og 29 true 41 (.bin .leq (tp 34) (tp 40)),og 26 false 42 (.pick (tp 29) (tp 41) (cq false)),oo 43 (.pick (tp 26) (cq true) (tp 42))] [0,0,3,7,15,31,63,127,255,255,1023,2047,4095,8191,16383,32767,65535,131071,262143,524287,1048575,1048575,4194303,8388607,16777215,1048575,1048575,68157439,235929599,504365055,1041235967,2147483647,4294967295,8589934591] (.take 0 (.take 1 (.take 2 (.take 3 (.take 4 (.alts (.cons 5 true (.take 6 (.take 7 (.take 8 (.take 9 (.take 10 (.take 11 (.take 12 (.alts (.cons 13 true (.take 14 (.take 15 (.take 16 (.take 17 (.take 18 (.take 19 (.take 20 (.take 21 (.take 22 (.take 23 (.take 24 (.take 25 (.take 26 (.take 27 (.take 28 (.take 29 (.take 30 (.take 31 (.take 32 (.take 33 .done)))))))))))))))))))) .nil))))))))) .nil))))))) (some [0,3,43])) (.cond (tp 43) (sr [oo 2 (.mv (cq false))] [2] .ret) .skip))) (.region [mq 8 3,oo 9 (.bin .add (tp 8) (ci 1)),mq 3 9] (some [0,3]))))))) (sr [mq 44 0,oo 45 (.len (tp 44) false),oo 46 (.bin .leq (tp 45) (ci 8)),mq 2 46] [2] .ret)))
def an_zgvgo : Ann := ann [0,1,2,4,5,3,6] ac_zgvgo
theorem ok_zgvgo : okd Tryz.prog an_zgvgo ac_zgvgo Tryz.f40 := ⟨by kernel_rfl, by kernel_rfl⟩

def ac_ztb7v : AC := (sr [oo 2 (.mv (cq false))] [0] (sr [mq 3 0,oo 4 (.bin .leq (ci 1) (tp 3)),mq 5 4,og 5 true 6 (.mv (tp 0)),og 5 true 7 (.bin .leq (tp 6) (ci 65535)),oo 8 (.pick (tp 5) (tp 7) (cq false)),mq 2 8] [2] .ret))
def an_ztb7v : Ann := ann (List.range 2) ac_ztb7v
theorem ok_ztb7v : okd Tryz.prog an_ztb7v ac_ztb7v Tryz.f41 := ⟨by kernel_rfl, by kernel_rfl⟩

def ac_zlyo9 : AC := (sr [oo 1 (.box 32 (tp 0)),oo 2 (.mv (cq false))] [1] (sr [fi 7 7 1,lq 8 7,mq 3 8] [1,3] (.seq (sr [oo 4 (.mv (ci 0))] [1,3,4] (.block 0 (.loop (.seq (sr [mq 9 4,mq 10 3,oo 11 (.len (tp 10) false),oo 12 (.bin .lss (tp 9) (tp 11))] [1,3,4,12] (.cond (tp 12) .skip (.exit 0))) (.seq (.block 1 (sr [mq 15 3,mq 16 4,oo 17 (.idxA 9 (tp 15) (tp 16)),oo 18 (.load (some 9) (tp 17)),oo 5 (.alloc 71 [.pd (.raw (.string ⟨#[]⟩)),.pd (.raw (.int .i64 0)),.pd (.raw (.bool false)),.pd (.raw (.string ⟨#[]⟩)),.pd (.raw (.int .i64 0)),.pd (.raw (.string ⟨#[]⟩)),.pd (.raw (.string ⟨#[]⟩)),.pd (.raw (.int .i64 0)),.nils]),.mk none none (.store 9 (tp 5) (tp 18))] [1,3,4,5] (.seq (sr [oo 6 (.mv (ci 0))] [1,3,4,5,6] (.block 2 (.loop (.seq (sr [mq 19 6,mq 20 4,oo 21 (.bin .lss (tp 19) (tp 20))] [1,3,4,5,6,21] (.cond (tp 21) .skip (.exit 2))) (.seq (.block 3 (.seq (.draw [mq 24 3,mq 25 6,oo 26 (.idxA 9 (tp 24) (tp 25)),fi 27 0 26,lq 28 27,fi 29 0 5,lq 30 29,oo 31 (.bin .eql (tp 28) (tp 30))] [0,0,3,7,15,0,32,127] (.take 0 (.take 1 (.take 2 (.take 3 (.take 4 (.take 5 (.take 6 (.take 7 .done)))))))) (some [1,3,4,5,6,31])) (.cond (tp 31) (sr [oo 2 (.mv (cq false))] [2] .ret) .skip))) (.region [mq 22 6,oo 23 (.bin .add (tp 22) (ci 1)),mq 6 23] (some [1,3,4,5,6]))))))) (.seq (sr [fi 32 0 5,lq 33 32,oo 34 (.call 74 [tp 33]),oo 35 (.un .not (tp 34)),mq 36 35,og 36 false 37 (.fieldA 1 (tp 5)),og 36 false 38 (.load none (tp 37)),og 36 false 39 (.call 41 [tp 38]),og 36 false 40 (.un .not (tp 39)),oo 41 (.pick (tp 36) (cq true) (tp 40)),mq 42 41,og 42 false 43 (.fieldA 3 (tp 5)),og 42 false 44 (.load none (tp 43)),og 42 false 45 (.call 101 [tp 44]),og 42 false 46 (.un .not (tp 45)),oo 47 (.pick (tp 42) (cq true) (tp 46)),mq 48 47,og 48 false 49 (.fieldA 7 (tp 5)),og 48 false 50 (.load none (tp 49)),og 48 false 51 (.bin .lss (tp 50) (ci 0)),oo 52 (.pick (tp 48) (cq true) (tp 51)),mq 53 52,og 53 false 54 (.fieldA 7 (tp 5)),og 53 false 55 (.load none (tp 54)),og 53 false 56 (.bin .gtr (tp 55) (ci 2)),oo 57 (.pick (tp 53) (cq true) (tp 56)),mq 58 57,og 58 false 59 (.fieldA 8 (tp 5)),og 58 false 60 (.load none (tp 59)),og 58 false 61 (.call 102 [tp 60]),og 58 false 62 (.un .not (tp 61)),oo 63 (.pick (tp 58) (cq true) (tp 62)),mq 64 63,og 64 false 65 (.fieldA 7 (tp 5)),og 64 false 66 (.load none (tp 65)),og 64 false 67 (.bin .neq (tp 66) (ci 2)),og 64 false 68 (.mv (tp 67)),og 68 true 69 (.fieldA 8 (tp 5)),og 68 true 70 (.load none (tp 69)),og 68 true 71 (.len (tp 70) false),og 68 true 72 (.bin .gtr (tp 71) (ci 0)),og 64 false 73 (.pick (tp 68) (tp 72) (cq false)),oo 74 (.pick (tp 64) (cq true) (tp 73))] [1,3,4,5,74] (.cond (tp 74) (sr [oo 2 (.mv (cq false))] [2] .ret) .skip)) (.seq (sr [fi 75 2 5,lq 76 75,mq 77 76,og 77 true 78 (.fieldA 4 (tp 5)),og 77 true 79 (.fieldA 0 (tp 78)),og 77 true 80 (.load none (tp 79)),og 77 true 81 (.bin .neq (tp 80) (ci 4)),og 77 true 82 (.mv (tp 81)),og 82 false 83 (.fieldA 4 (tp 5)),og 82 false 84 (.fieldA 1 (tp 83)),og 82 false 85 (.load none (tp 84)),og 82 false 86 (.call 103 [tp 85]),og 82 false 87 (.un .not (tp 86)),og 77 true 88 (.pick (tp 82) (cq true) (tp 87)),og 77 true 89 (.mv (tp 88)),og 89 false 90 (.fieldA 4 (tp 5)),og 89 false 91 (.fieldA 2 (tp 90)),og 89 false 92 (.load none (tp 91)),og 89 false 93 (.call 73 [tp 92]),og 89 false 94 (.un .not (tp 93)),og 77 true 95 (.pick (tp 89) (cq true) (tp 94)),oo 96 (.pick (tp 77) (tp 95) (cq false))] [1,3,4,5,96] (.cond (tp 96) (sr [oo 2 (.mv (cq false))] [2] .ret) .skip)) (sr [fi 97 2 5,lq 98 97,oo 99 (.un .not (tp 98)),mq 100 99,og 100 true 101 (.fieldA 4 (tp 5)),og 100 true 102 (.load (some 3) (tp 101)),og 100 true 103 (.build [.pd (.raw (.int .i64 0)),.pd (.raw (.string ⟨#[]⟩)),.pd (.raw (.string ⟨#[]⟩))] []),og 100 true 104 (.eqs true [.int,.str,.str] (tp 102) (tp 103)),oo 105 (.pick (tp 100) (tp 104) (cq false))] [1,3,4,105] (.cond (tp 105) (sr [oo 2 (.mv (cq false))] [2] .ret) .skip))))))) (.region [mq 13 4,oo 14 (.bin .add (tp 13) (ci 1)),mq 4 14] (some [1,3,4]))))))) (sr [fi 106 6 1,lq 107 106,oo 108 (.call 73 [tp 107]),mq 109 108,og 109 true 110 (.mv (tp 3)),og 109 true 111 (.len (tp 110) false),og 109 true 112 (.bin .leq (ci 1) (tp 111)),oo 113 (.pick (tp 109) (tp 112) (cq false)),mq 114 113,og 114 true 115 (.mv (tp 3)),og 114 true 116 (.len (tp 115) false),og 114 true 117 (.bin .leq (tp 116) (ci 8)),oo 118 (.pick (tp 114) (tp 117) (cq false)),mq 2 118] [2] .ret))))
def an_zlyo9 : Ann := ann [0,1,2,3,5,6,7,9,10,8,11,12,13,14,15,16,4,17] ac_zlyo9
theorem ok_zlyo9 : okd Tryz.prog an_zlyo9 ac_zlyo9 Tryz.f42 := ⟨by kernel_rfl, by kernel_rfl⟩

def ac_zgo5l : AC := (sr [oo 1 (.box 32 (tp 0)),oo 2 (.mv (cq false))] [1] (.seq (sr [oo 3 (.mv (ci 0))] [1,3] (.block 0 (.loop (.seq (sr [mq 9 3,fi 10 8 1,lq 11 10,oo 12 (.len (tp 11) false),oo 13 (.bin .lss (tp 9) (tp 12))] [1,3,13] (.cond (tp 13) .skip (.exit 0))) (.seq (.block 1 (sr [fi 16 8 1,lq 17 16,mq 18 3,oo 19 (.idxA 4 (tp 17) (tp 18)),oo 20 (.load (some 4) (tp 19)),oo 4 (.alloc 48 [.pd (.raw (.string ⟨#[]⟩)),.pd (.raw (.string ⟨#[]⟩)),.pd (.raw (.string ⟨#[]⟩)),.pd (.raw (.int .i64 0))]),.mk none none (.store 4 (tp 4) (tp 20))] [1,3,4] (.seq (sr [fi 21 0 4,lq 22 21,oo 23 (.call 103 [tp 22]),oo 24 (.un .not (tp 23)),mq 25 24,og 25 false 26 (.fieldA 1 (tp 4)),og 25 false 27 (.load none (tp 26)),og 25 false 28 (.call 73 [tp 27]),og 25 false 29 (.un .not (tp 28)),oo 30 (.pick (tp 25) (cq true) (tp 29)),mq 31 30,og 31 false 32 (.fieldA 2 (tp 4)),og 31 false 33 (.load none (tp 32)),og 31 false 34 (.call 103 [tp 33]),og 31 false 35 (.un .not (tp 34)),oo 36 (.pick (tp 31) (cq true) (tp 35)),mq 37 36,og 37 false 38 (.fieldA 3 (tp 4)),og 37 false 39 (.load none (tp 38)),og 37 false 40 (.bin .neq (tp 39) (ci 0)),og 37 false 41 (.mv (tp 40)),og 41 true 42 (.fieldA 3 (tp 4)),og 41 true 43 (.load none (tp 42)),og 41 true 44 (.call 41 [tp 43]),og 41 true 45 (.un .not (tp 44)),og 37 false 46 (.pick (tp 41) (tp 45) (cq false)),oo 47 (.pick (tp 37) (cq true) (tp 46))] [1,3,4,47] (.cond (tp 47) (sr [oo 2 (.mv (cq false))] [2] .ret) .skip)) (sr [oo 5 (.mv (ci 0))] [1,3,4,5] (.block 2 (.loop (.seq (sr [mq 48 5,mq 49 3,oo 50 (.bin .lss (tp 48) (tp 49))] [1,3,4,5,50] (.cond (tp 50) .skip (.exit 2))) (.seq (.block 3 (.seq (.draw [fi 53 8 1,lq 54 53,mq 55 5,oo 56 (.idxA 4 (tp 54) (tp 55)),oo 57 (.load (some 4) (tp 56)),oo 58 (.load (some 4) (tp 4)),oo 59 (.eqs false [.str,.str,.str,.int] (tp 57) (tp 58))] [0,1,0,7,15,0,63] (.take 0 (.take 1 (.take 2 (.take 3 (.take 4 (.take 5 (.take 6 .done))))))) (some [1,3,4,5,59])) (.cond (tp 59) (sr [oo 2 (.mv (cq false))] [2] .ret) .skip))) (.region [mq 51 5,oo 52 (.bin .add (tp 51) (ci 1)),mq 5 52] (some [1,3,4,5])))))))))) (.region [mq 14 3,oo 15 (.bin .add (tp 14) (ci 1)),mq 3 15] (some [1,3]))))))) (.seq (sr [oo 6 (.mv (ci 0))] [1,6] (.block 4 (.loop (.seq (sr [mq 60 6,fi 61 9 1,lq 62 61,oo 63 (.len (tp 62) false),oo 64 (.bin .lss (tp 60) (tp 63))] [1,6,64] (.cond (tp 64) .skip (.exit 4))) (.seq (.block 5 (.seq (sr [fi 67 9 1,lq 68 67,mq 69 6,oo 70 (.idxA 1 (tp 68) (tp 69)),lq 71 70,oo 72 (.bin .eql (tp 71) (.const (.string ⟨#[]⟩))),mq 73 72,og 73 false 74 (.fieldA 9 (tp 1)),og 73 false 75 (.load none (tp 74)),og 73 false 76 (.mv (tp 6)),og 73 false 77 (.idxA 1 (tp 75) (tp 76)),og 73 false 78 (.load none (tp 77)),og 73 false 79 (.call 101 [tp 78]),og 73 false 80 (.un .not (tp 79)),oo 81 (.pick (tp 73) (cq true) (tp 80))] [1,6,81] (.cond (tp 81) (sr [oo 2 (.mv (cq false))] [2] .ret) .skip)) (sr [oo 7 (.mv (ci 0))] [1,6,7] (.block 6 (.loop (.seq (sr [mq 82 7,mq 83 6,oo 84 (.bin .lss (tp 82) (tp 83))] [1,6,7,84] (.cond (tp 84) .skip (.exit 6))) (.seq (.block 7 (.seq (.draw [fi 87 9 1,lq 88 87,mq 89 7,oo 90 (.idxA 1 (tp 88) (tp 89)),lq 91 90,fi 92 9 1,lq 93 92,mq 94 6,oo 95 (.idxA 1 (tp 93) (tp 94)),lq 96 95,oo 97 (.bin .eql (tp 91) (tp 96))] [0,1,0,7,15,0,32,0,224,480,1023] (.take 0 (.take 1 (.take 2 (.take 3 (.take 4 (.take 5 (.take 6 (.take 7 (.take 8 (.take 9 (.take 10 .done))))))))))) (some [1,6,7,97])) (.cond (tp 97) (sr [oo 2 (.mv (cq false))] [2] .ret) .skip))) (.region [mq 85 7,oo 86 (.bin .add (tp 85) (ci 1)),mq 7 86] (some [1,6,7]))))))))) (.region [mq 65 6,oo 66 (.bin .add (tp 65) (ci 1)),mq 6 66] (some [1,6]))))))) (.seq (sr [oo 8 (.mv (ci 0))] [1,8] (.block 8 (.loop (.seq (sr [mq 98 8,fi 99 10 1,lq 100 99,oo 101 (.len (tp 100) false),oo 102 (.bin .lss (tp 98) (tp 101))] [1,8,102] (.cond (tp 102) .skip (.exit 8))) (.seq (.block 9 (sr [fi 105 10 1,lq 106 105,mq 107 8,oo 108 (.idxA 3 (tp 106) (tp 107)),oo 109 (.load (some 3) (tp 108)),oo 110 (.call 104 [tp 109]),oo 111 (.un .not (tp 110))] [1,8,111] (.cond (tp 111) (sr [oo 2 (.mv (cq false))] [2] .ret) .skip))) (.region [mq 103 8,oo 104 (.bin .add (tp 103) (ci 1)),mq 8 104] (some [1,8]))))))) (sr [fi 112 8 1,lq 113 112,oo 114 (.len (tp 113) false),oo 115 (.bin .leq (tp 114) (ci 4)),mq 116 115,og 116 true 117 (.fieldA 9 (tp 1)),og 116 true 118 (.load none (tp 117)),og 116 true 119 (.len (tp 118) false),og 116 true 120 (.bin .leq (tp 119) (ci 4)),oo 121 (.pick (tp 116) (tp 120) (cq false)),mq 122 121,og 122 true 123 (.fieldA 10 (tp 1)),og 122 true 124 (.load none (tp 123)),og 122 true 125 (.len (tp 124) false),og 122 true 126 (.bin .leq (tp 125) (ci 6)),oo 127 (.pick (tp 122) (tp 126) (cq false)),mq 2 127] [2] .ret)))))
def an_zgo5l : Ann := ann [0,1,2,4,5,6,7,8,10,11,9,3,12,13,15,16,17,18,20,21,19,14,22,23,25,26,24,27] ac_zgo5l
theorem ok_zgo5l : okd Tryz.prog an_zgo5l ac_zgo5l Tryz.f43 := ⟨by kernel_rfl, by kernel_rfl⟩

def ac_zrloc : AC := (sr [oo 1 (.box 32 (tp 0)),oo 2 (.mv (cq false))] [1] (.seq (sr [oo 3 (.mv (ci 0))] [1,3] (.block 0 (.loop (.seq (sr [mq 5 3,fi 6 11 1,lq 7 6,oo 8 (.len (tp 7) false),oo 9 (.bin .lss (tp 5) (tp 8))] [1,3,9] (.cond (tp 9) .skip (.exit 0))) (.seq (.block 1 (sr [fi 12 11 1,lq 13 12,mq 14 3,oo 15 (.idxA 3 (tp 13) (tp 14)),fi 16 0 15,lq 17 16,oo 18 (.call 105 [tp 17]),oo 19 (.un .not (tp 18)),mq 20 19,og 20 false 21 (.fieldA 11 (tp 1)),og 20 false 22 (.load none (tp 21)),og 20 false 23 (.mv (tp 3)),og 20 false 24 (.idxA 3 (tp 22) (tp 23)),og 20 false 25 (.fieldA 1 (tp 24)),og 20 false 26 (.load none (tp 25)),og 20 false 27 (.call 74 [tp 26]),og 20 false 28 (.un .not (tp 27)),oo 29 (.pick (tp 20) (cq true) (tp 28)),mq 30 29,og 30 false 31 (.fieldA 11 (tp 1)),og 30 false 32 (.load none (tp 31)),og 30 false 33 (.mv (tp 3)),og 30 false 34 (.idxA 3 (tp 32) (tp 33)),og 30 false 35 (.fieldA 2 (tp 34)),og 30 false 36 (.load none (tp 35)),og 30 false 37 (.bin .neq (tp 36) (.const (.string ⟨#[]⟩))),oo 38 (.pick (tp 30) (cq true) (tp 37))] [1,3,38] (.cond (tp 38) (sr [oo 2 (.mv (cq false))] [2] .ret) .skip))) (.region [mq 10 3,oo 11 (.bin .add (tp 10) (ci 1)),mq 3 11] (some [1,3]))))))) (.seq (sr [oo 4 (.mv (ci 0))] [1,4] (.block 2 (.loop (.seq (sr [mq 39 4,fi 40 12 1,lq 41 40,oo 42 (.len (tp 41) false),oo 43 (.bin .lss (tp 39) (tp 42))] [1,4,43] (.cond (tp 43) .skip (.exit 2))) (.seq (.block 3 (sr [fi 46 12 1,lq 47 46,mq 48 4,oo 49 (.idxA 3 (tp 47) (tp 48)),fi 50 0 49,lq 51 50,oo 52 (.call 105 [tp 51]),oo 53 (.un .not (tp 52)),mq 54 53,og 54 false 55 (.fieldA 12 (tp 1)),og 54 false 56 (.load none (tp 55)),og 54 false 57 (.mv (tp 4)),og 54 false 58 (.idxA 3 (tp 56) (tp 57)),og 54 false 59 (.fieldA 1 (tp 58)),og 54 false 60 (.load none (tp 59)),og 54 false 61 (.bin .neq (tp 60) (.const (.string ⟨#[]⟩))),oo 62 (.pick (tp 54) (cq true) (tp 61)),mq 63 62,og 63 false 64 (.fieldA 12 (tp 1)),og 63 false 65 (.load none (tp 64)),og 63 false 66 (.mv (tp 4)),og 63 false 67 (.idxA 3 (tp 65) (tp 66)),og 63 false 68 (.fieldA 2 (tp 67)),og 63 false 69 (.load none (tp 68)),og 63 false 70 (.bin .neq (tp 69) (.const (.string ⟨#[]⟩))),og 63 false 71 (.mv (tp 70)),og 71 true 72 (.fieldA 12 (tp 1)),og 71 true 73 (.load none (tp 72)),og 71 true 74 (.mv (tp 4)),og 71 true 75 (.idxA 3 (tp 73) (tp 74)),og 71 true 76 (.fieldA 2 (tp 75)),og 71 true 77 (.load none (tp 76)),og 71 true 78 (.call 73 [tp 77]),og 71 true 79 (.un .not (tp 78)),og 63 false 80 (.pick (tp 71) (tp 79) (cq false)),oo 81 (.pick (tp 63) (cq true) (tp 80))] [1,4,81] (.cond (tp 81) (sr [oo 2 (.mv (cq false))] [2] .ret) .skip))) (.region [mq 44 4,oo 45 (.bin .add (tp 44) (ci 1)),mq 4 45] (some [1,4]))))))) (sr [fi 82 11 1,lq 83 82,oo 84 (.len (tp 83) false),oo 85 (.bin .leq (ci 1) (tp 84)),mq 86 85,og 86 true 87 (.fieldA 11 (tp 1)),og 86 true 88 (.load none (tp 87)),og 86 true 89 (.len (tp 88) false),og 86 true 90 (.bin .leq (tp 89) (ci 4)),oo 91 (.pick (tp 86) (tp 90) (cq false)),mq 92 91,og 92 true 93 (.fieldA 12 (tp 1)),og 92 true 94 (.load none (tp 93)),og 92 true 95 (.len (tp 94) false),og 92 true 96 (.bin .leq (ci 1) (tp 95)),oo 97 (.pick (tp 92) (tp 96) (cq false)),mq 98 97,og 98 true 99 (.fieldA 12 (tp 1)),og 98 true 100 (.load none (tp 99)),og 98 true 101 (.len (tp 100) false),og 98 true 102 (.bin .leq (tp 101) (ci 4)),oo 103 (.pick (tp 98) (tp 102) (cq false)),mq 2 103] [2] .ret))))
def an_zrloc : Ann := ann [0,1,2,4,5,3,6,7,9,10,8,11] ac_zrloc
theorem ok_zrloc : okd Tryz.prog an_zrloc ac_zrloc Tryz.f44 := ⟨by kernel_rfl, by kernel_rfl⟩

def ac_zk76r : AC := (sr [oo 4 (.mv (cq false))] [0,1] (.seq (sr [mq 6 0,oo 7 (.len (tp 6) false),mq 8 1,oo 9 (.len (tp 8) false),oo 10 (.bin .neq (tp 7) (tp 9))] [0,1,10] (.cond (tp 10) (sr [oo 4 (.mv (cq false))] [4] .ret) .skip)) (.seq (sr [oo 5 (.mv (ci 0))] [0,1,5] (.block 0 (.loop (.seq (sr [mq 11 5,mq 12 0,oo 13 (.len (tp 12) false),oo 14 (.bin .lss (tp 11) (tp 13))] [0,1,5,14] (.cond (tp 14) .skip (.exit 0))) (.seq (.block 1 (.seq (.draw [mq 17 0,mq 18 5,oo 19 (.idxA 2 (tp 17) (tp 18)),oo 20 (.load (some 2) (tp 19)),mq 21 1,mq 22 5,oo 23 (.idxA 2 (tp 21) (tp 22)),oo 24 (.load (some 2) (tp 23)),oo 25 (.eqs true [.str,.str] (tp 20) (tp 24))] [0,0,3,7,0,0,48,112,255] (.take 0 (.take 1 (.take 2 (.take 3 (.take 4 (.take 5 (.take 6 (.take 7 (.take 8 .done))))))))) (some [0,1,5,25])) (.cond (tp 25) (sr [oo 4 (.mv (cq false))] [4] .ret) .skip))) (.region [mq 15 5,oo 16 (.bin .add (tp 15) (ci 1)),mq 5 16] (some [0,1,5]))))))) (sr [oo 4 (.mv (cq true))] [4] .ret))))
def an_zk76r : Ann := ann [0,1,2,3,4,6,7,5,8] ac_zk76r
theorem ok_zk76r : okd Tryz.prog an_zk76r ac_zk76r Tryz.f54 := ⟨by kernel_rfl, by kernel_rfl⟩

def ac_zjxe8 : AC := (sr [oo 4 (.mv (cq false))] [0,1] (.seq (sr [mq 6 0,oo 7 (.len (tp 6) false),mq 8 1,oo 9 (.len (tp 8) false),oo 10 (.bin .neq (tp 7) (tp 9))] [0,1,10] (.cond (tp 10) (sr [oo 4 (.mv (cq false))] [4] .ret) .skip)) (.seq (sr [oo 5 (.mv (ci 0))] [0,1,5] (.block 0 (.loop (.seq (sr [mq 11 5,mq 12 0,oo 13 (.len (tp 12) false),oo 14 (.bin .lss (tp 11) (tp 13))] [0,1,5,14] (.cond (tp 14) .skip (.exit 0))) (.seq (.block 1 (.seq (.draw [mq 17 0,mq 18 5,oo 19 (.idxA 1 (tp 17) (tp 18)),lq 20 19,mq 21 1,mq 22 5,oo 23 (.idxA 1 (tp 21) (tp 22)),lq 24 23,oo 25 (.bin .neq (tp 20) (tp 24))] [0,0,3,7,0,0,48,112,255] (.take 0 (.take 1 (.take 2 (.take 3 (.take 4 (.take 5 (.take 6 (.take 7 (.take 8 .done))))))))) (some [0,1,5,25])) (.cond (tp 25) (sr [oo 4 (.mv (cq false))] [4] .ret) .skip))) (.region [mq 15 5,oo 16 (.bin .add (tp 15) (ci 1)),mq 5 16] (some [0,1,5]))))))) (sr [oo 4 (.mv (cq true))] [4] .ret))))
def an_zjxe8 : Ann := ann [0,1,2,3,4,6,7,5,8] ac_zjxe8
theorem ok_zjxe8 : okd Tryz.prog an_zjxe8 ac_zjxe8 Tryz.f55 := ⟨by kernel_rfl, by kernel_rfl⟩

def ac_zgrh4 : AC := (sr [oo 4 (.mv (cq false))] [0,1] (.seq (sr [mq 6 0,oo 7 (.len (tp 6) false),mq 8 1,oo 9 (.len (tp 8) false),oo 10 (.bin .neq (tp 7) (tp 9))] [0,1,10] (.cond (tp 10) (sr [oo 4 (.mv (cq false))] [4] .ret) .skip)) (.seq (sr [oo 5 (.mv (ci 0))] [0,1,5] (.block 0 (.loop (.seq (sr [mq 11 5,mq 12 0,oo 13 (.len (tp 12) false),oo 14 (.bin .lss (tp 11) (tp 13))] [0,1,5,14] (.cond (tp 14) .skip (.exit 0))) (.seq (.block 1 (.seq (.draw [mq 17 0,mq 18 5,oo 19 (.idxA 3 (tp 17) (tp 18)),fi 20 0 19,lq 21 20,mq 22 1,mq 23 5,oo 24 (.idxA 3 (tp 22) (tp 23)),fi 25 0 24,lq 26 25,oo 27 (.bin .neq (tp 21) (tp 26)),mq 28 27,og 28 false 29 (.mv (tp 0)),og 28 false 30 (.mv (tp 5)),og 28 false 31 (.idxA 3 (tp 29) (tp 30)),og 28 false 32 (.fieldA 1 (tp 31)),og 28 false 33 (.load none (tp 32)),og 28 false 34 (.mv (tp 1)),og 28 false 35 (.mv (tp 5)),og 28 false 36 (.idxA 3 (tp 34) (tp 35)),og 28 false 37 (.fieldA 1 (tp 36)),og 28 false 38 (.load none (tp 37)),og 28 false 39 (.bin .neq (tp 33) (tp 38)),oo 40 (.pick (tp 28) (cq true) (tp 39)),mq 41 40,og 41 false 42 (.mv (tp 0)),og 41 false 43 (.mv (tp 5)),og 41 false 44 (.idxA 3 (tp 42) (tp 43)),og 41 false 45 (.fieldA 2 (tp 44)),og 41 false 46 (.load none (tp 45)),og 41 false 47 (.mv (tp 1)),og 41 false 48 (.mv (tp 5)),og 41 false 49 (.idxA 3 (tp 47) (tp 48)),og 41 false 50 (.fieldA 2 (tp 49)),og 41 false 51 (.load none (tp 50)),og 41 false 52 (.call 55 [tp 46,tp 51]),og 41 false 53 (.un .not (tp 52)),oo 54 (.pick (tp 41) (cq true) (tp 53))] [0,0,3,7,15,0,0,96,224,480,1023,2047,4095,4095,16383,32767,65535,4095,4095,397311,921599,1970175,4194303,8388607,16777215,33554431,33554431,134217727,268435455,536870911,33554431,33554431,3254779903,7549747199,16139681791,34359738367,68719476735,137438953471] (.take 0 (.take 1 (.take 2 (.take 3 (.take 4 (.take 5 (.take 6 (.take 7 (.take 8 (.take 9 (.take 10 (.take 11 (.take 12 (.take 13 (.take 14 (.take 15 (.take 16 (.take 17 (.take 18 (.take 19 (.take 20 (.take 21 (.take 22 (.take 23 (.take 24 (.take 25 (.take 26 (.take 27 (.take 28 (.take 29 (.take 30 (.take 31 (.take 32 (.take 33 (.take 34 (.alts (.cons 35 true (.take 36 (.take 37 .done)) .nil))))))))))))))))))))))))))))))))))))) (some [0,1,5,54])) (.cond (tp 54) (sr [oo 4 (.mv (cq false))] [4] .ret) .skip))) (.region [mq 15 5,oo 16 (.bin .add (tp 15) (ci 1)),mq 5 16] (some [0,1,5]))))))) (sr [oo 4 (.mv (cq true))] [4] .ret))))
def an_zgrh4 : Ann := ann [0,1,2,3,4,6,7,5,8] ac_zgrh4
theorem ok_zgrh4 : okd Tryz.prog an_zgrh4 ac_zgrh4 Tryz.f56 := ⟨by kernel_rfl, by kernel_rfl⟩

def ac_zt6t3 : AC := (sr [oo 2 (.box 53 (tp 0)),oo 3 (.box 53 (tp 1)),oo 4 (.mv (cq false))] [2,3] (.seq (sr [fi 8 0 2,lq 9 8,oo 10 (.len (tp 9) false),fi 11 0 3,lq 12 11,oo 13 (.len (tp 12) false),oo 14 (.bin .neq (tp 10) (tp 13)),mq 15 14,og 15 false 16 (.fieldA 1 (tp 2)),og 15 false 17 (.load none (tp 16)),og 15 false 18 (.len (tp 17) false),og 15 false 19 (.fieldA 1 (tp 3)),og 15 false 20 (.load none (tp 19)),og 15 false 21 (.len (tp 20) false),og 15 false 22 (.bin .neq (tp 18) (tp 21)),oo 23 (.pick (tp 15) (cq true) (tp 22)),mq 24 23,og 24 false 25 (.fieldA 2 (tp 2)),og 24 false 26 (.load none (tp 25)),og 24 false 27 (.len (tp 26) false),og 24 false 28 (.fieldA 2 (tp 3)),og 24 false 29 (.load none (tp 28)),og 24 false 30 (.len (tp 29) false),og 24 false 31 (.bin .neq (tp 27) (tp 30)),oo 32 (.pick (tp 24) (cq true) (tp 31))] [2,3,32] (.cond (tp 32) (sr [oo 4 (.mv (cq false))] [4] .ret) .skip)) (.seq (sr [oo 5 (.mv (ci 0))] [2,3,5] (.block 0 (.loop (.seq (sr [mq 33 5,fi 34 0 2,lq 35 34,oo 36 (.len (tp 35) false),oo 37 (.bin .lss (tp 33) (tp 36))] [2,3,5,37] (.cond (tp 37) .skip (.exit 0))) (.seq (.block 1 (.seq (.draw [fi 40 0 2,lq 41 40,mq 42 5,oo 43 (.idxA 5 (tp 41) (tp 42)),oo 44 (.load (some 5) (tp 43)),fi 45 0 3,lq 46 45,mq 47 5,oo 48 (.idxA 5 (tp 46) (tp 47)),oo 49 (.load (some 5) (tp 48)),oo 50 (.call 111 [tp 44,tp 49]),oo 51 (.un .not (tp 50))] [0,1,0,7,15,0,32,0,224,480,1023,2047] (.take 0 (.take 1 (.take 2 (.take 3 (.take 4 (.take 5 (.take 6 (.take 7 (.take 8 (.take 9 (.alts (.cons 10 true (.take 11 .done) .nil)))))))))))) (some [2,3,5,51])) (.cond (tp 51) (sr [oo 4 (.mv (cq false))] [4] .ret) .skip))) (.region [mq 38 5,oo 39 (.bin .add (tp 38) (ci 1)),mq 5 39] (some [2,3,5]))))))) (.seq (sr [oo 6 (.mv (ci 0))] [2,3,6] (.block 2 (.loop (.seq (sr [mq 52 6,fi 53 1 2,lq 54 53,oo 55 (.len (tp 54) false),oo 56 (.bin .lss (tp 52) (tp 55))] [2,3,6,56] (.cond (tp 56) .skip (.exit 2))) (.seq (.block 3 (.seq (.draw [fi 59 1 2,lq 60 59,mq 61 6,oo 62 (.idxA 8 (tp 60) (tp 61)),oo 63 (.load (some 8) (tp 62)),fi 64 1 3,lq 65 64,mq 66 6,oo 67 (.idxA 8 (tp 65) (tp 66)),oo 68 (.load (some 8) (tp 67)),oo 69 (.eqs true [.int,.str,.str,.str,.int,.str,.bool,.int] (tp 63) (tp 68))] [0,1,0,7,15,0,32,0,224,480,1023] (.take 0 (.take 1 (.take 2 (.take 3 (.take 4 (.take 5 (.take 6 (.take 7 (.take 8 (.take 9 (.take 10 .done))))))))))) (some [2,3,6,69])) (.cond (tp 69) (sr [oo 4 (.mv (cq false))] [4] .ret) .skip))) (.region [mq 57 6,oo 58 (.bin .add (tp 57) (ci 1)),mq 6 58] (some [2,3,6]))))))) (.seq (sr [oo 7 (.mv (ci 0))] [2,3,7] (.block 4 (.loop (.seq (sr [mq 70 7,fi 71 2 2,lq 72 71,oo 73 (.len (tp 72) false),oo 74 (.bin .lss (tp 70) (tp 73))] [2,3,7,74] (.cond (tp 74) .skip (.exit 4))) (.seq (.block 5 (.seq (.draw [fi 77 2 2,lq 78 77,mq 79 7,oo 80 (.idxA 5 (tp 78) (tp 79)),oo 81 (.load (some 5) (tp 80)),fi 82 2 3,lq 83 82,mq 84 7,oo 85 (.idxA 5 (tp 83) (tp 84)),oo 86 (.load (some 5) (tp 85)),oo 87 (.eqs true [.int,.str,.str,.int,.int] (tp 81) (tp 86))] [0,1,0,7,15,0,32,0,224,480,1023] (.take 0 (.take 1 (.take 2 (.take 3 (.take 4 (.take 5 (.take 6 (.take 7 (.take 8 (.take 9 (.take 10 .done))))))))))) (some [2,3,7,87])) (.cond (tp 87) (sr [oo 4 (.mv (cq false))] [4] .ret) .skip))) (.region [mq 75 7,oo 76 (.bin .add (tp 75) (ci 1)),mq 7 76] (some [2,3,7]))))))) (sr [oo 4 (.mv (cq true))] [4] .ret))))))
def an_zt6t3 : Ann := ann [0,1,2,3,4,6,7,5,8,9,11,12,10,13,14,16,17,15,18] ac_zt6t3
theorem ok_zt6t3 : okd Tryz.prog an_zt6t3 ac_zt6t3 Tryz.f57 := ⟨by kernel_rfl, by kernel_rfl⟩

def ac_z9r1p : AC := (sr [oo 3 (.box 23 (tp 1)),oo 4 (.mv (.const (.slice none 0 0)))] [0,3] (sr [oo 5 (.mv (.const (.slice none 0 0)))] [0,3,5] (.seq (sr [oo 6 (.mv (ci 0))] [0,3,5,6] (.block 0 (.loop (.seq (sr [mq 8 6,mq 9 0,oo 10 (.len (tp 9) false),oo 11 (.bin .lss (tp 8) (tp 10))] [0,3,5,6,11] (.cond (tp 11) .skip (.exit 0))) (.seq (.block 1 (.seq (.draw [mq 14 0,mq 15 6,oo 16 (.idxA 3 (tp 14) (tp 15)),oo 17 (.load (some 3) (tp 16)),oo 18 (.load (some 3) (tp 3)),oo 19 (.call 27 [tp 17,tp 18]),oo 20 (.bin .lss (tp 19) (ci 0))] [0,0,3,7,0,31,63] (.take 0 (.take 1 (.take 2 (.take 3 (.take 4 (.alts (.cons 5 true (.take 6 .done) .nil))))))) (some [0,3,5,6,20])) (.cond (tp 20) (.region [mq 21 5,mq 22 0,mq 23 6,oo 24 (.idxA 3 (tp 22) (tp 23)),oo 25 (.load (some 3) (tp 24)),oo 26 (.bslice 23 3 [tp 25]),oo 27 (.append 23 3 40 (tp 21) (tp 26)),mq 5 27] (some [0,3,5,6])) .skip))) (.region [mq 12 6,oo 13 (.bin .add (tp 12) (ci 1)),mq 6 13] (some [0,3,5,6]))))))) (sr [mq 28 5,oo 29 (.load (some 3) (tp 3)),oo 30 (.bslice 23 3 [tp 29]),oo 31 (.append 23 3 40 (tp 28) (tp 30)),mq 5 31] [0,3,5] (.seq (sr [oo 7 (.mv (ci 0))] [0,3,5,7] (.block 2 (.loop (.seq (sr [mq 32 7,mq 33 0,oo 34 (.len (tp 33) false),oo 35 (.bin .lss (tp 32) (tp 34))] [0,3,5,7,35] (.cond (tp 35) .skip (.exit 2))) (.seq (.block 3 (.seq (.draw [mq 38 0,mq 39 7,oo 40 (.idxA 3 (tp 38) (tp 39)),oo 41 (.load (some 3) (tp 40)),oo 42 (.load (some 3) (tp 3)),oo 43 (.call 27 [tp 41,tp 42]),oo 44 (.bin .gtr (tp 43) (ci 0))] [0,0,3,7,0,31,63] (.take 0 (.take 1 (.take 2 (.take 3 (.take 4 (.alts (.cons 5 true (.take 6 .done) .nil))))))) (some [0,3,5,7,44])) (.cond (tp 44) (.region [mq 45 5,mq 46 0,mq 47 7,oo 48 (.idxA 3 (tp 46) (tp 47)),oo 49 (.load (some 3) (tp 48)),oo 50 (.bslice 23 3 [tp 49]),oo 51 (.append 23 3 40 (tp 45) (tp 50)),mq 5 51] (some [0,3,5,7])) .skip))) (.region [mq 36 7,oo 37 (.bin .add (tp 36) (ci 1)),mq 7 37] (some [0,3,5,7]))))))) (sr [mq 52 5,mq 4 52] [4] .ret))))))
def an_z9r1p : Ann := ann [0,1,2,3,5,4,6,7,8,9,11,10,12,13] ac_z9r1p
theorem ok_z9r1p : okd Tryz.prog an_z9r1p ac_z9r1p Tryz.f62 := ⟨by kernel_rfl, by kernel_rfl⟩

def ac_z8x60 : AC := (sr [oo 2 (.box 23 (tp 0)),oo 4 (.alloc 23 [.pd (.raw (.int .i64 0)),.pd (.raw (.string ⟨#[]⟩)),.pd (.raw (.string ⟨#[]⟩))])] [1,2,4] (.seq (sr [fi 5 0 2,lq 6 5,oo 7 (.bin .gtr (tp 6) (ci 2)),mq 8 7,og 8 true 9 (.fieldA 1 (tp 2)),og 8 true 10 (.load none (tp 9)),og 8 true 11 (.bin .eql (tp 10) (.const (.string ⟨#[]⟩))),oo 12 (.pick (tp 8) (tp 11) (cq false))] [1,2,4,12] (.cond (tp 12) (.region [mq 13 1,fi 14 1 2,.mk none none (.store 1 (tp 14) (tp 13))] (some [2,4])) .skip)) (sr [oo 15 (.load (some 3) (tp 2)),.mk none none (.store 3 (tp 4) (tp 15))] [4] .ret)))
def an_z8x60 : Ann := ann (List.range 4) ac_z8x60
theorem ok_z8x60 : okd Tryz.prog an_z8x60 ac_z8x60 Tryz.f63 := ⟨by kernel_rfl, by kernel_rfl⟩
theorem ret_z8x60 (st : St) : resD Tryz.prog st Tryz.f63.results.toList = resA st [.cell 4 (some 3)] := resD_of (by kernel_rfl)

def ac_zvp8y : AC := (sr [oo 2 (.mv (cq false))] [0] (.seq (sr [mq 5 0,oo 6 (.len (tp 5) true),oo 7 (.bin .gtr (tp 6) (ci 60))] [0,7] (.cond (tp 7) (sr [oo 2 (.mv (cq false))] [2] .ret) .skip)) (sr [mq 8 0,oo 9 (.call 117 [tp 8,.const (.int .u8 46)]),mq 3 9] [3] (.seq (sr [oo 4 (.mv (ci 0))] [3,4] (.block 0 (.loop (.seq (sr [mq 10 4,mq 11 3,oo 12 (.len (tp 11) false),oo 13 (.bin .lss (tp 10) (tp 12))] [3,4,13] (.cond (tp 13) .skip (.exit 0))) (.seq (.block 1 (sr [mq 16 3,mq 17 4,oo 18 (.idxA 1 (tp 16) (tp 17)),lq 19 18,oo 20 (.call 74 [tp 19]),oo 21 (.un .not (tp 20))] [3,4,21] (.cond (tp 21) (sr [oo 2 (.mv (cq false))] [2] .ret) .skip))) (.region [mq 14 4,oo 15 (.bin .add (tp 14) (ci 1)),mq 4 15] (some [3,4]))))))) (sr [oo 2 (.mv (cq true))] [2] .ret)))))
def an_zvp8y : Ann := ann [0,1,2,3,4,5,7,8,6,9] ac_zvp8y
theorem ok_zvp8y : okd Tryz.prog an_zvp8y ac_zvp8y Tryz.f73 := ⟨by kernel_rfl, by kernel_rfl⟩

def ac_z4drv : AC := (sr [oo 2 (.mv (cq false))] [0] (.seq (sr [oo 3 (.mv (ci 0))] [0,3] (.block 0 (.loop (.seq (sr [mq 6 3,mq 7 0,oo 8 (.len (tp 7) true),oo 9 (.bin .lss (tp 6) (tp 8))] [0,3,9] (.cond (tp 9) .skip (.exit 0))) (.seq (.block 1 (sr [mq 12 0,mq 13 3,oo 14 (.idxS (tp 12) (tp 13)),mq 4 14] [0,3,4] (sr [mq 15 3,oo 16 (.bin .eql (tp 15) (ci 0)),mq 17 16,og 17 false 18 (.mv (tp 3)),og 17 false 19 (.mv (tp 0)),og 17 false 20 (.len (tp 19) true),og 17 false 21 (.bin .sub (tp 20) (ci 1)),og 17 false 22 (.bin .eql (tp 18) (tp 21)),oo 23 (.pick (tp 17) (cq true) (tp 22)),mq 5 23] [0,3,4,5] (sr [mq 24 4,oo 25 (.bin .leq (.const (.int .u8 97)) (tp 24)),mq 26 25,og 26 true 27 (.mv (tp 4)),og 26 true 28 (.bin .leq (tp 27) (.const (.int .u8 122))),oo 29 (.pick (tp 26) (tp 28) (cq false)),mq 30 29,og 30 false 31 (.mv (tp 4)),og 30 false 32 (.bin .leq (.const (.int .u8 48)) (tp 31)),og 30 false 33 (.mv (tp 32)),og 33 true 34 (.mv (tp 4)),og 33 true 35 (.bin .leq (tp 34) (.const (.int .u8 57))),og 30 false 36 (.pick (tp 33) (tp 35) (cq false)),oo 37 (.pick (tp 30) (cq true) (tp 36)),mq 38 37,og 38 false 39 (.mv (tp 4)),og 38 false 40 (.bin .eql (tp 39) (.const (.int .u8 45))),og 38 false 41 (.mv (tp 40)),og 41 true 42 (.mv (tp 5)),og 41 true 43 (.un .not (tp 42)),og 38 false 44 (.pick (tp 41) (tp 43) (cq false)),oo 45 (.pick (tp 38) (cq true) (tp 44)),oo 46 (.un .not (tp 45))] [0,3,46] (.cond (tp 46) (sr [oo 2 (.mv (cq false))] [2] .ret) .skip))))) (.region [mq 10 3,oo 11 (.bin .add (tp 10) (ci 1)),mq 3 11] (some [0,3]))))))) (sr [mq 47 0,oo 48 (.len (tp 47) true),oo 49 (.bin .leq (ci 1) (tp 48)),mq 50 49,og 50 true 51 (.mv (tp 0)),og 50 true 52 (.len (tp 51) true),og 50 true 53 (.bin .leq (tp 52) (ci 20)),oo 54 (.pick (tp 50) (tp 53) (cq false)),mq 2 54] [2] .ret)))
def an_z4drv : Ann := ann [0,1,2,4,5,6,7,3,8] ac_z4drv
theorem ok_z4drv : okd Tryz.prog an_z4drv ac_z4drv Tryz.f74 := ⟨by kernel_rfl, by kernel_rfl⟩

def ac_z1s4w : AC := (sr [oo 2 (.mv (cq false))] [0] (sr [mq 3 0,oo 4 (.bin .eql (tp 3) (.const (.string ⟨#[]⟩))),mq 5 4,og 5 false 6 (.mv (tp 0)),og 5 false 7 (.call 74 [tp 6]),oo 8 (.pick (tp 5) (cq true) (tp 7)),mq 2 8] [2] .ret))
def an_z1s4w : Ann := ann (List.range 2) ac_z1s4w
theorem ok_z1s4w : okd Tryz.prog an_z1s4w ac_z1s4w Tryz.f100 := ⟨by kernel_rfl, by kernel_rfl⟩

def ac_z8jqh : AC := (sr [oo 2 (.mv (cq false))] [0] (sr [mq 6 0,oo 7 (.call 148 [tp 6]),mq 5 7,oo 8 (.extract (tp 5) 0),oo 9 (.extract (tp 5) 1),mq 3 8,mq 4 9] [0,3] (sr [mq 10 0,oo 11 (.bin .eql (tp 10) (.const (.string ⟨#[]⟩))),mq 12 11,og 12 false 13 (.mv (tp 0)),og 12 false 14 (.len (tp 13) true),og 12 false 15 (.bin .leq (tp 14) (ci 60)),og 12 false 16 (.mv (tp 15)),og 16 true 17 (.mv (tp 3)),og 16 true 18 (.call 73 [tp 17]),og 12 false 19 (.pick (tp 16) (tp 18) (cq false)),oo 20 (.pick (tp 12) (cq true) (tp 19)),mq 2 20] [2] .ret)))
def an_z8jqh : Ann := ann (List.range 3) ac_z8jqh
theorem ok_z8jqh : okd Tryz.prog an_z8jqh ac_z8jqh Tryz.f101 := ⟨by kernel_rfl, by kernel_rfl⟩

def ac_zc60e : AC := (sr [oo 2 (.mv (cq false))] [0] (.seq (sr [oo 3 (.mv (ci 0))] [0,3] (.block 0 (.loop (.seq (sr [mq 4 3,mq 5 0,oo 6 (.len (tp 5) false),oo 7 (.bin .lss (tp 4) (tp 6))] [0,3,7] (.cond (tp 7) .skip (.exit 0))) (.seq (.block 1 (sr [mq 10 0,mq 11 3,oo 12 (.idxA 3 (tp 10) (tp 11)),oo 13 (.load (some 3) (tp 12)),oo 14 (.call 149 [tp 13]),oo 15 (.un .not (tp 14))] [0,3,15] (.cond (tp 15) (sr [oo 2 (.mv (cq false))] [2] .ret) .skip))) (.region [mq 8 3,oo 9 (.bin .add (tp 8) (ci 1)),mq 3 9] (some [0,3]))))))) (sr [mq 16 0,oo 17 (.len (tp 16) false),oo 18 (.bin .leq (tp 17) (ci 8)),mq 2 18] [2] .ret)))
def an_zc60e : Ann := ann [0,1,2,4,5,3,6] ac_zc60e
theorem ok_zc60e : okd Tryz.prog an_zc60e ac_zc60e Tryz.f102 := ⟨by kernel_rfl, by kernel_rfl⟩

def ac_z84ie : AC := (sr [oo 2 (.mv (cq false))] [0] (sr [mq 3 0,oo 4 (.bin .eql (tp 3) (.const (.string ⟨#[]⟩))),mq 5 4,og 5 false 6 (.mv (tp 0)),og 5 false 7 (.call 74 [tp 6]),oo 8 (.pick (tp 5) (cq true) (tp 7)),mq 2 8] [2] .ret))
def an_z84ie : Ann := ann (List.range 2) ac_z84ie
theorem ok_z84ie : okd Tryz.prog an_z84ie ac_z84ie Tryz.f103 := ⟨by kernel_rfl, by kernel_rfl⟩

def ac_zn5zf : AC := (sr [oo 1 (.box 53 (tp 0)),oo 2 (.mv (cq false))] [1] (.seq (sr [fi 6 0 1,lq 7 6,oo 8 (.len (tp 7) false),oo 9 (.bin .gtr (tp 8) (ci 4)),mq 10 9,og 10 false 11 (.fieldA 2 (tp 1)),og 10 false 12 (.load none (tp 11)),og 10 false 13 (.len (tp 12) false),og 10 false 14 (.bin .gtr (tp 13) (ci 4)),oo 15 (.pick (tp 10) (cq true) (tp 14)),mq 16 15,og 16 false 17 (.fieldA 1 (tp 1)),og 16 false 18 (.load none (tp 17)),og 16 false 19 (.call 150 [tp 18]),og 16 false 20 (.un .not (tp 19)),oo 21 (.pick (tp 16) (cq true) (tp 20))] [1,21] (.cond (tp 21) (sr [oo 2 (.mv (cq false))] [2] .ret) .skip)) (.seq (sr [oo 3 (.mv (ci 0))] [1,3] (.block 0 (.loop (.seq (sr [mq 22 3,fi 23 0 1,lq 24 23,oo 25 (.len (tp 24) false),oo 26 (.bin .lss (tp 22) (tp 25))] [1,3,26] (.cond (tp 26) .skip (.exit 0))) (.seq (.block 1 (sr [fi 29 0 1,lq 30 29,mq 31 3,oo 32 (.idxA 5 (tp 30) (tp 31)),oo 33 (.load (some 5) (tp 32)),oo 34 (.call 151 [tp 33]),oo 35 (.un .not (tp 34))] [1,3,35] (.cond (tp 35) (sr [oo 2 (.mv (cq false))] [2] .ret) .skip))) (.region [mq 27 3,oo 28 (.bin .add (tp 27) (ci 1)),mq 3 28] (some [1,3]))))))) (.seq (sr [oo 4 (.mv (ci 0))] [1,4] (.block 2 (.loop (.seq (sr [mq 36 4,fi 37 2 1,lq 38 37,oo 39 (.len (tp 38) false),oo 40 (.bin .lss (tp 36) (tp 39))] [1,4,40] (.cond (tp 40) .skip (.exit 2))) (.seq (.block 3 (sr [fi 43 2 1,lq 44 43,mq 45 4,oo 46 (.idxA 5 (tp 44) (tp 45)),oo 47 (.load (some 5) (tp 46)),oo 5 (.alloc 55 [.pd (.raw (.int .i64 0)),.pd (.raw (.string ⟨#[]⟩)),.pd (.raw (.string ⟨#[]⟩)),.pd (.raw (.int .i64 0)),.pd (.raw (.int .i64 0))]),.mk none none (.store 5 (tp 5) (tp 47))] [1,4,5] (sr [fi 48 0 5,fi 49 0 48,lq 50 49,oo 51 (.call 105 [tp 50]),oo 52 (.un .not (tp 51)),mq 53 52,og 53 false 54 (.fieldA 0 (tp 5)),og 53 false 55 (.fieldA 1 (tp 54)),og 53 false 56 (.load none (tp 55)),og 53 false 57 (.call 103 [tp 56]),og 53 false 58 (.un .not (tp 57)),oo 59 (.pick (tp 53) (cq true) (tp 58)),mq 60 59,og 60 false 61 (.fieldA 0 (tp 5)),og 60 false 62 (.fieldA 2 (tp 61)),og 60 false 63 (.load none (tp 62)),og 60 false 64 (.call 73 [tp 63]),og 60 false 65 (.un .not (tp 64)),oo 66 (.pick (tp 60) (cq true) (tp 65)),mq 67 66,og 67 false 68 (.fieldA 3 (tp 5)),og 67 false 69 (.load none (tp 68)),og 67 false 70 (.bin .neq (tp 69) (ci 0)),og 67 false 71 (.mv (tp 70)),og 71 true 72 (.fieldA 3 (tp 5)),og 71 true 73 (.load none (tp 72)),og 71 true 74 (.call 41 [tp 73]),og 71 true 75 (.un .not (tp 74)),og 67 false 76 (.pick (tp 71) (tp 75) (cq false)),oo 77 (.pick (tp 67) (cq true) (tp 76)),mq 78 77,og 78 false 79 (.fieldA 4 (tp 5)),og 78 false 80 (.load none (tp 79)),og 78 false 81 (.bin .lss (tp 80) (ci 0)),oo 82 (.pick (tp 78) (cq true) (tp 81)),mq 83 82,og 83 false 84 (.fieldA 4 (tp 5)),og 83 false 85 (.load none (tp 84)),og 83 false 86 (.bin .gtr (tp 85) (ci 1000)),oo 87 (.pick (tp 83) (cq true) (tp 86))] [1,4,87] (.cond (tp 87) (sr [oo 2 (.mv (cq false))] [2] .ret) .skip)))) (.region [mq 41 4,oo 42 (.bin .add (tp 41) (ci 1)),mq 4 42] (some [1,4]))))))) (sr [oo 2 (.mv (cq true))] [2] .ret)))))
def an_zn5zf : Ann := ann [0,1,2,3,4,6,7,5,8,9,11,12,13,10,14] ac_zn5zf
theorem ok_zn5zf : okd Tryz.prog an_zn5zf ac_zn5zf Tryz.f104 := ⟨by kernel_rfl, by kernel_rfl⟩

def ac_zotge : AC := (sr [oo 2 (.mv (cq false))] [0] (sr [mq 3 0,oo 4 (.bin .leq (ci 1) (tp 3)),mq 5 4,og 5 true 6 (.mv (tp 0)),og 5 true 7 (.bin .leq (tp 6) (ci 7)),oo 8 (.pick (tp 5) (tp 7) (cq false)),mq 2 8] [2] .ret))
def an_zotge : Ann := ann (List.range 2) ac_zotge
theorem ok_zotge : okd Tryz.prog an_zotge ac_zotge Tryz.f105 := ⟨by kernel_rfl, by kernel_rfl⟩

def ac_zlug8 : AC := (sr [oo 2 (.box 77 (tp 0)),oo 3 (.box 77 (tp 1)),oo 4 (.mv (cq false))] [2,3] (sr [fi 5 0 2,oo 6 (.load (some 2) (tp 5)),fi 7 0 3,oo 8 (.load (some 2) (tp 7)),oo 9 (.eqs false [.int,.str] (tp 6) (tp 8)),mq 10 9,og 10 true 11 (.fieldA 2 (tp 2)),og 10 true 12 (.load none (tp 11)),og 10 true 13 (.fieldA 2 (tp 3)),og 10 true 14 (.load none (tp 13)),og 10 true 15 (.bin .eql (tp 12) (tp 14)),oo 16 (.pick (tp 10) (tp 15) (cq false)),mq 17 16,og 17 true 18 (.fieldA 3 (tp 2)),og 17 true 19 (.load none (tp 18)),og 17 true 20 (.fieldA 3 (tp 3)),og 17 true 21 (.load none (tp 20)),og 17 true 22 (.call 54 [tp 19,tp 21]),oo 23 (.pick (tp 17) (tp 22) (cq false)),mq 24 23,og 24 true 25 (.fieldA 4 (tp 2)),og 24 true 26 (.load none (tp 25)),og 24 true 27 (.fieldA 4 (tp 3)),og 24 true 28 (.load none (tp 27)),og 24 true 29 (.call 54 [tp 26,tp 28]),oo 30 (.pick (tp 24) (tp 29) (cq false)),mq 4 30] [4] .ret))
def an_zlug8 : Ann := ann (List.range 2) ac_zlug8
theorem ok_zlug8 : okd Tryz.prog an_zlug8 ac_zlug8 Tryz.f111 := ⟨by kernel_rfl, by kernel_rfl⟩

def ac_zwnk2 : AC := (sr [oo 4 (.mv (.const (.slice none 0 0)))] [0,1] (sr [oo 7 (.bslice 9 1 [.const (.string ⟨#[]⟩)]),mq 5 7] [0,1,5] (.seq (sr [oo 6 (.mv (ci 0))] [0,1,5,6] (.block 0 (.loop (.seq (sr [mq 8 6,mq 9 0,oo 10 (.len (tp 9) true),oo 11 (.bin .lss (tp 8) (tp 10))] [0,1,5,6,11] (.cond (tp 11) .skip (.exit 0))) (.seq (.block 1 (sr [mq 14 0,mq 15 6,oo 16 (.idxS (tp 14) (tp 15)),mq 17 1,oo 18 (.bin .eql (tp 16) (tp 17))] [0,1,5,6,18] (.cond (tp 18) (.region [mq 19 5,oo 20 (.bslice 9 1 [.const (.string ⟨#[]⟩)]),oo 21 (.append 9 1 16 (tp 19) (tp 20)),mq 5 21] (some [0,1,5,6])) (.draw [mq 22 5,mq 23 5,oo 24 (.len (tp 23) false),oo 25 (.bin .sub (tp 24) (ci 1)),oo 26 (.idxA 1 (tp 22) (tp 25)),lq 27 26,mq 28 0,mq 29 6,mq 30 6,oo 31 (.bin .add (tp 30) (ci 1)),oo 32 (.slcS (tp 28) (some (tp 29)) (some (tp 31))),oo 33 (.bin .add (tp 27) (tp 32)),oo 34 (.idxA 1 (tp 22) (tp 25)),.mk none none (.store 1 (tp 34) (tp 33))] [0,0,2,6,15,31,0,0,0,256,960,2047,4095,8191] (.take 0 (.take 1 (.take 2 (.take 3 (.take 4 (.take 5 (.take 6 (.take 7 (.take 8 (.take 9 (.take 10 (.take 11 (.take 12 (.alts (.cons 13 true .done .nil))))))))))))))) (some [0,1,5,6]))))) (.region [mq 12 6,oo 13 (.bin .add (tp 12) (ci 1)),mq 6 13] (some [0,1,5,6]))))))) (sr [mq 35 5,mq 4 35] [4] .ret))))
def an_zwnk2 : Ann := ann [0,1,2,3,5,4,7,6,8] ac_zwnk2
theorem ok_zwnk2 : okd Tryz.prog an_zwnk2 ac_zwnk2 Tryz.f117 := ⟨by kernel_rfl, by kernel_rfl⟩

def ac_zsoo6 : AC := (sr [oo 2 (.mv (.const (.string ⟨#[]⟩))),oo 3 (.mv (cq false))] [0] (.seq (sr [mq 4 0,oo 5 (.len (tp 4) true),oo 6 (.bin .geq (tp 5) (ci 2)),mq 7 6,og 7 true 8 (.mv (tp 0)),og 7 true 9 (.idxS (tp 8) (ci 0)),og 7 true 10 (.bin .eql (tp 9) (.const (.int .u8 42))),oo 11 (.pick (tp 7) (tp 10) (cq false)),mq 12 11,og 12 true 13 (.mv (tp 0)),og 12 true 14 (.idxS (tp 13) (ci 1)),og 12 true 15 (.bin .eql (tp 14) (.const (.int .u8 46))),oo 16 (.pick (tp 12) (tp 15) (cq false))] [0,16] (.cond (tp 16) (sr [mq 17 0,oo 18 (.slcS (tp 17) (some (ci 2)) none),mq 2 18,oo 3 (.mv (cq true))] [2,3] .ret) .skip)) (sr [mq 19 0,mq 2 19,oo 3 (.mv (cq false))] [2,3] .ret)))
def an_zsoo6 : Ann := ann (List.range 4) ac_zsoo6
theorem ok_zsoo6 : okd Tryz.prog an_zsoo6 ac_zsoo6 Tryz.f148 := ⟨by kernel_rfl, by kernel_rfl⟩

def ac_zqap2 : AC := (sr [oo 1 (.box 116 (tp 0)),oo 2 (.mv (cq false))] [1] (.seq (sr [oo 3 (.mv (ci 0))] [1,3] (.block 0 (.loop (.seq (sr [mq 4 3,fi 5 2 1,lq 6 5,oo 7 (.len (tp 6) false),oo 8 (.bin .lss (tp 4) (tp 7))] [1,3,8] (.cond (tp 8) .skip (.exit 0))) (.seq (.block 1 (sr [fi 11 2 1,lq 12 11,mq 13 3,oo 14 (.idxA 1 (tp 12) (tp 13)),lq 15 14,oo 16 (.call 100 [tp 15]),oo 17 (.un .not (tp 16))] [1,3,17] (.cond (tp 17) (sr [oo 2 (.mv (cq false))] [2] .ret) .skip))) (.region [mq 9 3,oo 10 (.bin .add (tp 9) (ci 1)),mq 3 10] (some [1,3]))))))) (.seq (sr [fi 18 0 1,lq 19 18] [1,19] (.block 2 (.seq (sr [oo 21 (.bin .eql (tp 19) (ci 1)),mq 20 21] [1,19,20] (.cond (tp 20) .skip (.region [oo 22 (.bin .eql (tp 19) (ci 2)),mq 20 22] (some [1,19,20])))) (.cond (tp 20) (sr [fi 23 1 1,lq 24 23,oo 25 (.call 73 [tp 24]),mq 26 25,og 26 true 27 (.fieldA 2 (tp 1)),og 26 true 28 (.load none (tp 27)),og 26 true 29 (.len (tp 28) false),og 26 true 30 (.bin .leq (ci 1) (tp 29)),oo 31 (.pick (tp 26) (tp 30) (cq false)),mq 32 31,og 32 true 33 (.fieldA 2 (tp 1)),og 32 true 34 (.load none (tp 33)),og 32 true 35 (.len (tp 34) false),og 32 true 36 (.bin .leq (tp 35) (ci 8)),oo 37 (.pick (tp 32) (tp 36) (cq false)),mq 2 37] [2] .ret) (.seq (sr [oo 39 (.bin .eql (tp 19) (ci 3)),mq 38 39] [1,19,38] (.cond (tp 38) .skip (.region [oo 40 (.bin .eql (tp 19) (ci 4)),mq 38 40] (some [1,38])))) (.cond (tp 38) (sr [fi 41 1 1,lq 42 41,oo 43 (.call 73 [tp 42]),mq 44 43,og 44 true 45 (.fieldA 2 (tp 1)),og 44 true 46 (.load none (tp 45)),og 44 true 47 (.len (tp 46) false),og 44 true 48 (.bin .eql (tp 47) (ci 0)),oo 49 (.pick (tp 44) (tp 48) (cq false)),mq 2 49] [2] .ret) .skip)))))) (sr [oo 2 (.mv (cq false))] [2] .ret))))
def an_zqap2 : Ann := ann [0,1,2,4,5,3,6,7,8,9,10,11,12,13] ac_zqap2
theorem ok_zqap2 : okd Tryz.prog an_zqap2 ac_zqap2 Tryz.f149 := ⟨by kernel_rfl, by kernel_rfl⟩

def ac_z3gij : AC := (sr [oo 2 (.mv (cq false))] [0] (sr [oo 3 (.mv (ci 0))] [0,3] (.seq (sr [oo 4 (.mv (ci 0))] [0,3,4] (.block 0 (.loop (.seq (sr [mq 6 4,mq 7 0,oo 8 (.len (tp 7) false),oo 9 (.bin .lss (tp 6) (tp 8))] [0,3,4,9] (.cond (tp 9) .skip (.exit 0))) (.seq (.block 1 (.seq (sr [mq 12 0,mq 13 4,oo 14 (.idxA 8 (tp 12) (tp 13)),oo 15 (.load (some 8) (tp 14)),oo 16 (.call 195 [tp 15]),oo 17 (.un .not (tp 16))] [0,3,4,17] (.cond (tp 17) (sr [oo 2 (.mv (cq false))] [2] .ret) .skip)) (.seq (sr [mq 18 0,mq 19 4,oo 20 (.idxA 8 (tp 18) (tp 19)),fi 21 0 20,lq 22 21,oo 23 (.bin .gtr (tp 22) (ci 3))] [0,3,4,23] (.cond (tp 23) (.region [mq 24 3,oo 25 (.bin .add (tp 24) (ci 1)),mq 3 25] (some [0,3,4])) .skip)) (sr [oo 5 (.mv (ci 0))] [0,3,4,5] (.block 2 (.loop (.seq (sr [mq 26 5,mq 27 4,oo 28 (.bin .lss (tp 26) (tp 27))] [0,3,4,5,28] (.cond (tp 28) .skip (.exit 2))) (.seq (.block 3 (.seq (.draw [mq 31 0,mq 32 5,oo 33 (.idxA 8 (tp 31) (tp 32)),fi 34 0 33,lq 35 34,mq 36 0,mq 37 4,oo 38 (.idxA 8 (tp 36) (tp 37)),fi 39 0 38,lq 40 39,oo 41 (.bin .eql (tp 35) (tp 40)),mq 42 41,og 42 true 43 (.mv (tp 0)),og 42 true 44 (.mv (tp 5)),og 42 true 45 (.idxA 8 (tp 43) (tp 44)),og 42 true 46 (.fieldA 1 (tp 45)),og 42 true 47 (.load none (tp 46)),og 42 true 48 (.mv (tp 0)),og 42 true 49 (.mv (tp 4)),og 42 true 50 (.idxA 8 (tp 48) (tp 49)),og 42 true 51 (.fieldA 1 (tp 50)),og 42 true 52 (.load none (tp 51)),og 42 true 53 (.call 196 [tp 47,tp 52]),oo 54 (.pick (tp 42) (tp 53) (cq false))] [0,0,3,7,15,0,0,96,224,480,1023,2047,4095,4095,16383,32767,65535,4095,4095,397311,921599,1970175,4194303,8388607] (.take 0 (.take 1 (.take 2 (.take 3 (.take 4 (.take 5 (.take 6 (.take 7 (.take 8 (.take 9 (.take 10 (.take 11 (.take 12 (.take 13 (.take 14 (.take 15 (.take 16 (.take 17 (.take 18 (.take 19 (.take 20 (.take 21 (.alts (.cons 22 true (.take 23 .done) .nil)))))))))))))))))))))))) (some [0,3,4,5,54])) (.cond (tp 54) (sr [oo 2 (.mv (cq false))] [2] .ret) .skip))) (.region [mq 29 5,oo 30 (.bin .add (tp 29) (ci 1)),mq 5 30] (some [0,3,4,5])))))))))) (.region [mq 10 4,oo 11 (.bin .add (tp 10) (ci 1)),mq 4 11] (some [0,3,4]))))))) (sr [mq 55 3,oo 56 (.bin .leq (tp 55) (ci 1)),mq 57 56,og 57 true 58 (.mv (tp 0)),og 57 true 59 (.len (tp 58) false),og 57 true 60 (.bin .leq (tp 59) (ci 8)),oo 61 (.pick (tp 57) (tp 60) (cq false)),mq 2 61] [2] .ret))))
def an_z3gij : Ann := ann [0,1,2,3,5,6,7,4,9,10,12,13,11,8,14] ac_z3gij
theorem ok_z3gij : okd Tryz.prog an_z3gij ac_z3gij Tryz.f150 := ⟨by kernel_rfl, by kernel_rfl⟩

def ac_z1jc9 : AC := (sr [oo 1 (.box 77 (tp 0)),oo 2 (.mv (cq false))] [1] (.seq (sr [fi 7 0 1,oo 8 (.load (some 2) (tp 7)),oo 9 (.call 197 [tp 8]),oo 10 (.un .not (tp 9)),mq 11 10,og 11 false 12 (.fieldA 2 (tp 1)),og 11 false 13 (.load none (tp 12)),og 11 false 14 (.bin .neq (tp 13) (.const (.string ⟨#[]⟩))),og 11 false 15 (.mv (tp 14)),og 15 true 16 (.fieldA 2 (tp 1)),og 15 true 17 (.load none (tp 16)),og 15 true 18 (.call 198 [tp 17]),og 15 true 19 (.un .not (tp 18)),og 11 false 20 (.pick (tp 15) (tp 19) (cq false)),oo 21 (.pick (tp 11) (cq true) (tp 20)),mq 22 21,og 22 false 23 (.fieldA 3 (tp 1)),og 22 false 24 (.load none (tp 23)),og 22 false 25 (.len (tp 24) false),og 22 false 26 (.bin .gtr (tp 25) (ci 8)),oo 27 (.pick (tp 22) (cq true) (tp 26)),mq 28 27,og 28 false 29 (.fieldA 4 (tp 1)),og 28 false 30 (.load none (tp 29)),og 28 false 31 (.len (tp 30) false),og 28 false 32 (.bin .gtr (tp 31) (ci 8)),oo 33 (.pick (tp 28) (cq true) (tp 32)),mq 34 33,og 34 false 35 (.fieldA 4 (tp 1)),og 34 false 36 (.load none (tp 35)),og 34 false 37 (.call 199 [tp 36]),og 34 false 38 (.un .not (tp 37)),oo 39 (.pick (tp 34) (cq true) (tp 38))] [1,39] (.cond (tp 39) (sr [oo 2 (.mv (cq false))] [2] .ret) .skip)) (.seq (sr [oo 3 (.mv (ci 0))] [1,3] (.block 0 (.loop (.seq (sr [mq 40 3,fi 41 3 1,lq 42 41,oo 43 (.len (tp 42) false),oo 44 (.bin .lss (tp 40) (tp 43))] [1,3,44] (.cond (tp 44) .skip (.exit 0))) (.seq (.block 1 (.seq (sr [fi 47 3 1,lq 48 47,mq 49 3,oo 50 (.idxA 2 (tp 48) (tp 49)),fi 51 0 50,lq 52 51,oo 53 (.call 200 [tp 52]),oo 54 (.un .not (tp 53)),mq 55 54,og 55 false 56 (.fieldA 3 (tp 1)),og 55 false 57 (.load none (tp 56)),og 55 false 58 (.mv (tp 3)),og 55 false 59 (.idxA 2 (tp 57) (tp 58)),og 55 false 60 (.fieldA 1 (tp 59)),og 55 false 61 (.load none (tp 60)),og 55 false 62 (.call 201 [tp 61]),og 55 false 63 (.un .not (tp 62)),oo 64 (.pick (tp 55) (cq true) (tp 63))] [1,3,64] (.cond (tp 64) (sr [oo 2 (.mv (cq false))] [2] .ret) .skip)) (sr [oo 4 (.mv (ci 0))] [1,3,4] (.block 2 (.loop (.seq (sr [mq 65 4,mq 66 3,oo 67 (.bin .lss (tp 65) (tp 66))] [1,3,4,67] (.cond (tp 67) .skip (.exit 2))) (.seq (.block 3 (.seq (.draw [fi 70 3 1,lq 71 70,mq 72 3,oo 73 (.idxA 2 (tp 71) (tp 72)),fi 74 0 73,lq 75 74,fi 76 3 1,lq 77 76,mq 78 4,oo 79 (.idxA 2 (tp 77) (tp 78)),fi 80 0 79,lq 81 80,oo 82 (.call 196 [tp 75,tp 81])] [0,1,0,7,15,31,0,64,0,448,960,1984,4095] (.take 0 (.take 1 (.take 2 (.take 3 (.take 4 (.take 5 (.take 6 (.take 7 (.take 8 (.take 9 (.take 10 (.take 11 (.alts (.cons 12 true .done .nil)))))))))))))) (some [1,3,4,82])) (.cond (tp 82) (sr [oo 2 (.mv (cq false))] [2] .ret) .skip))) (.region [mq 68 4,oo 69 (.bin .add (tp 68) (ci 1)),mq 4 69] (some [1,3,4]))))))))) (.region [mq 45 3,oo 46 (.bin .add (tp 45) (ci 1)),mq 3 46] (some [1,3]))))))) (.seq (sr [oo 5 (.mv (ci 0))] [1,5] (.block 4 (.loop (.seq (sr [mq 83 5,fi 84 4 1,lq 85 84,oo 86 (.len (tp 85) false),oo 87 (.bin .lss (tp 83) (tp 86))] [1,5,87] (.cond (tp 87) .skip (.exit 4))) (.seq (.block 5 (sr [oo 6 (.mv (ci 0))] [1,5,6] (.block 6 (.loop (.seq (sr [mq 90 6,mq 91 5,oo 92 (.bin .lss (tp 90) (tp 91))] [1,5,6,92] (.cond (tp 92) .skip (.exit 6))) (.seq (.block 7 (.seq (.draw [fi 95 4 1,lq 96 95,mq 97 5,oo 98 (.idxA 2 (tp 96) (tp 97)),fi 99 0 98,lq 100 99,fi 101 4 1,lq 102 101,mq 103 6,oo 104 (.idxA 2 (tp 102) (tp 103)),fi 105 0 104,lq 106 105,oo 107 (.bin .eql (tp 100) (tp 106))] [0,1,0,7,15,31,0,64,0,448,960,1984,4095] (.take 0 (.take 1 (.take 2 (.take 3 (.take 4 (.take 5 (.take 6 (.take 7 (.take 8 (.take 9 (.take 10 (.take 11 (.take 12 .done))))))))))))) (some [1,5,6,107])) (.cond (tp 107) (sr [oo 2 (.mv (cq false))] [2] .ret) .skip))) (.region [mq 93 6,oo 94 (.bin .add (tp 93) (ci 1)),mq 6 94] (some [1,5,6])))))))) (.region [mq 88 5,oo 89 (.bin .add (tp 88) (ci 1)),mq 5 89] (some [1,5]))))))) (sr [oo 2 (.mv (cq true))] [2] .ret)))))
def an_z1jc9 : Ann := ann [0,1,2,3,4,6,7,8,9,11,12,10,5,13,14,16,17,19,20,18,15,21] ac_z1jc9
theorem ok_z1jc9 : okd Tryz.prog an_z1jc9 ac_z1jc9 Tryz.f151 := ⟨by kernel_rfl, by kernel_rfl⟩

def ac_z6xll : AC := (sr [oo 1 (.box 118 (tp 0)),oo 2 (.mv (cq false))] [1] (sr [fi 4 3 1,lq 5 4,oo 6 (.bin .eql (tp 5) (.const (.string ⟨#[]⟩))),mq 7 6,og 7 true 8 (.fieldA 4 (tp 1)),og 7 true 9 (.load none (tp 8)),og 7 true 10 (.bin .eql (tp 9) (ci 0)),oo 11 (.pick (tp 7) (tp 10) (cq false)),mq 12 11,og 12 true 13 (.fieldA 5 (tp 1)),og 12 true 14 (.load none (tp 13)),og 12 true 15 (.bin .eql (tp 14) (.const (.string ⟨#[]⟩))),oo 16 (.pick (tp 12) (tp 15) (cq false)),mq 17 16,og 17 true 18 (.fieldA 6 (tp 1)),og 17 true 19 (.load none (tp 18)),og 17 true 20 (.un .not (tp 19)),oo 21 (.pick (tp 17) (tp 20) (cq false)),mq 22 21,og 22 true 23 (.fieldA 7 (tp 1)),og 22 true 24 (.load none (tp 23)),og 22 true 25 (.bin .eql (tp 24) (ci 0)),oo 26 (.pick (tp 22) (tp 25) (cq false)),mq 3 26] [1,3] (.seq (sr [fi 27 0 1,lq 28 27] [1,3,28] (.block 0 (.seq (sr [oo 30 (.bin .eql (tp 28) (ci 1)),mq 29 30] [1,3,28,29] (.cond (tp 29) .skip (.region [oo 31 (.bin .eql (tp 28) (ci 2)),mq 29 31] (some [1,3,28,29])))) (.cond (tp 29) (sr [mq 32 3,mq 33 32,og 33 true 34 (.fieldA 1 (tp 1)),og 33 true 35 (.load none (tp 34)),og 33 true 36 (.call 200 [tp 35]),oo 37 (.pick (tp 33) (tp 36) (cq false)),mq 38 37,og 38 true 39 (.fieldA 2 (tp 1)),og 38 true 40 (.load none (tp 39)),og 38 true 41 (.call 201 [tp 40]),oo 42 (.pick (tp 38) (tp 41) (cq false)),mq 2 42] [2] .ret) (sr [oo 44 (.bin .eql (tp 28) (ci 3)),mq 43 44] [1,3,28,43] (.cond (tp 43) (sr [mq 45 3,mq 46 45,og 46 true 47 (.fieldA 1 (tp 1)),og 46 true 48 (.load none (tp 47)),og 46 true 49 (.call 200 [tp 48]),oo 50 (.pick (tp 46) (tp 49) (cq false)),mq 51 50,og 51 true 52 (.fieldA 2 (tp 1)),og 51 true 53 (.load none (tp 52)),og 51 true 54 (.bin .eql (tp 53) (.const (.string ⟨#[]⟩))),oo 55 (.pick (tp 51) (tp 54) (cq false)),mq 2 55] [2] .ret) (sr [oo 57 (.bin .eql (tp 28) (ci 4)),mq 56 57] [1,28,56] (.cond (tp 56) (sr [fi 58 1 1,lq 59 58,oo 60 (.bin .eql (tp 59) (.const (.string ⟨#[]⟩))),mq 61 60,og 61 true 62 (.fieldA 2 (tp 1)),og 61 true 63 (.load none (tp 62)),og 61 true 64 (.bin .eql (tp 63) (.const (.string ⟨#[]⟩))),oo 65 (.pick (tp 61) (tp 64) (cq false)),mq 66 65,og 66 true 67 (.load (some 8) (tp 1)),og 66 true 68 (.call 226 [tp 67]),oo 69 (.pick (tp 66) (tp 68) (cq false)),mq 70 69,og 70 true 71 (.fieldA 4 (tp 1)),og 70 true 72 (.load none (tp 71)),og 70 true 73 (.bin .leq (ci 0) (tp 72)),oo 74 (.pick (tp 70) (tp 73) (cq false)),mq 75 74,og 75 true 76 (.fieldA 4 (tp 1)),og 75 true 77 (.load none (tp 76)),og 75 true 78 (.bin .leq (tp 77) (ci 65535)),oo 79 (.pick (tp 75) (tp 78) (cq false)),mq 80 79,og 80 true 81 (.fieldA 7 (tp 1)),og 80 true 82 (.load none (tp 81)),og 80 true 83 (.bin .eql (tp 82) (ci 301)),og 80 true 84 (.mv (tp 83)),og 84 false 85 (.fieldA 7 (tp 1)),og 84 false 86 (.load none (tp 85)),og 84 false 87 (.bin .eql (tp 86) (ci 302)),og 80 true 88 (.pick (tp 84) (cq true) (tp 87)),oo 89 (.pick (tp 80) (tp 88) (cq false)),mq 2 89] [2] .ret) (sr [oo 91 (.bin .eql (tp 28) (ci 5)),mq 90 91] [1,90] (.cond (tp 90) (sr [fi 92 1 1,lq 93 92,oo 94 (.bin .eql (tp 93) (.const (.string ⟨#[]⟩))),mq 95 94,og 95 true 96 (.fieldA 2 (tp 1)),og 95 true 97 (.load none (tp 96)),og 95 true 98 (.bin .eql (tp 97) (.const (.string ⟨#[]⟩))),oo 99 (.pick (tp 95) (tp 98) (cq false)),mq 100 99,og 100 true 101 (.fieldA 4 (tp 1)),og 100 true 102 (.load none (tp 101)),og 100 true 103 (.bin .eql (tp 102) (ci 0)),oo 104 (.pick (tp 100) (tp 103) (cq false)),mq 105 104,og 105 true 106 (.fieldA 7 (tp 1)),og 105 true 107 (.load none (tp 106)),og 105 true 108 (.bin .eql (tp 107) (ci 0)),oo 109 (.pick (tp 105) (tp 108) (cq false)),mq 110 109,og 110 true 111 (.load (some 8) (tp 1)),og 110 true 112 (.call 226 [tp 111]),oo 113 (.pick (tp 110) (tp 112) (cq false)),mq 114 113,og 114 true 115 (.fieldA 3 (tp 1)),og 114 true 116 (.load none (tp 115)),og 114 true 117 (.fieldA 5 (tp 1)),og 114 true 118 (.load none (tp 117)),og 114 true 119 (.bin .add (tp 116) (tp 118)),og 114 true 120 (.bin .neq (tp 119) (.const (.string ⟨#[]⟩))),oo 121 (.pick (tp 114) (tp 120) (cq false)),mq 2 121] [2] .ret) .skip)))))))))) (sr [oo 2 (.mv (cq false))] [2] .ret))))
def an_z6xll : Ann := ann (List.range 13) ac_z6xll
theorem ok_z6xll : okd Tryz.prog an_z6xll ac_z6xll Tryz.f195 := ⟨by kernel_rfl, by kernel_rfl⟩

def ac_zm0ue : AC := (sr [oo 4 (.mv (cq false))] [0,1] (sr [mq 5 0,oo 6 (.call 227 [tp 5]),mq 7 1,oo 8 (.call 227 [tp 7]),oo 9 (.bin .eql (tp 6) (tp 8)),mq 4 9] [4] .ret))
def an_zm0ue : Ann := ann (List.range 2) ac_zm0ue
theorem ok_zm0ue : okd Tryz.prog an_zm0ue ac_zm0ue Tryz.f196 := ⟨by kernel_rfl, by kernel_rfl⟩

def ac_zetzt : AC := (sr [oo 1 (.box 75 (tp 0)),oo 2 (.mv (cq false))] [1] (.seq (sr [fi 3 0 1,lq 4 3,oo 5 (.bin .eql (tp 4) (ci 1))] [1,5] (.cond (tp 5) (sr [fi 6 1 1,lq 7 6,oo 8 (.call 228 [tp 7]),mq 2 8] [2] .ret) .skip)) (sr [fi 9 0 1,lq 10 9,oo 11 (.bin .eql (tp 10) (ci 2)),mq 12 11,og 12 true 13 (.fieldA 1 (tp 1)),og 12 true 14 (.load none (tp 13)),og 12 true 15 (.call 229 [tp 14]),oo 16 (.pick (tp 12) (tp 15) (cq false)),mq 2 16] [2] .ret)))
def an_zetzt : Ann := ann (List.range 4) ac_zetzt
theorem ok_zetzt : okd Tryz.prog an_zetzt ac_zetzt Tryz.f197 := ⟨by kernel_rfl, by kernel_rfl⟩

def ac_zhynl : AC := (sr [oo 2 (.mv (cq false))] [0] (.seq (sr [oo 3 (.mv (ci 0))] [0,3] (.block 0 (.loop (.seq (sr [mq 4 3,mq 5 0,oo 6 (.len (tp 5) true),oo 7 (.bin .lss (tp 4) (tp 6))] [0,3,7] (.cond (tp 7) .skip (.exit 0))) (.seq (.block 1 (sr [mq 10 0,mq 11 3,oo 12 (.idxS (tp 10) (tp 11)),oo 13 (.bin .lss (tp 12) (.const (.int .u8 65))),mq 14 13,og 14 false 15 (.mv (tp 0)),og 14 false 16 (.mv (tp 3)),og 14 false 17 (.idxS (tp 15) (tp 16)),og 14 false 18 (.bin .gtr (tp 17) (.const (.int .u8 90))),oo 19 (.pick (tp 14) (cq true) (tp 18))] [0,3,19] (.cond (tp 19) (sr [oo 2 (.mv (cq false))] [2] .ret) .skip))) (.region [mq 8 3,oo 9 (.bin .add (tp 8) (ci 1)),mq 3 9] (some [0,3]))))))) (sr [mq 20 0,oo 21 (.len (tp 20) true),oo 22 (.bin .leq (ci 1) (tp 21)),mq 23 22,og 23 true 24 (.mv (tp 0)),og 23 true 25 (.len (tp 24) true),og 23 true 26 (.bin .leq (tp 25) (ci 10)),oo 27 (.pick (tp 23) (tp 26) (cq false)),mq 2 27] [2] .ret)))
def an_zhynl : Ann := ann [0,1,2,4,5,3,6] ac_zhynl
theorem ok_zhynl : okd Tryz.prog an_zhynl ac_zhynl Tryz.f198 := ⟨by kernel_rfl, by kernel_rfl⟩

def ac_z6q89 : AC := (sr [oo 2 (.mv (cq false))] [0] (.seq (sr [oo 3 (.mv (ci 0))] [0,3] (.block 0 (.loop (.seq (sr [mq 4 3,mq 5 0,oo 6 (.len (tp 5) false),oo 7 (.bin .lss (tp 4) (tp 6))] [0,3,7] (.cond (tp 7) .skip (.exit 0))) (.seq (.block 1 (sr [mq 10 0,mq 11 3,oo 12 (.idxA 2 (tp 10) (tp 11)),fi 13 0 12,lq 14 13,oo 15 (.len (tp 14) true),oo 16 (.bin .lss (tp 15) (ci 1)),mq 17 16,og 17 false 18 (.mv (tp 0)),og 17 false 19 (.mv (tp 3)),og 17 false 20 (.idxA 2 (tp 18) (tp 19)),og 17 false 21 (.fieldA 0 (tp 20)),og 17 false 22 (.load none (tp 21)),og 17 false 23 (.len (tp 22) true),og 17 false 24 (.bin .gtr (tp 23) (ci 40)),oo 25 (.pick (tp 17) (cq true) (tp 24)),mq 26 25,og 26 false 27 (.mv (tp 0)),og 26 false 28 (.mv (tp 3)),og 26 false 29 (.idxA 2 (tp 27) (tp 28)),og 26 false 30 (.fieldA 1 (tp 29)),og 26 false 31 (.load none (tp 30)),og 26 false 32 (.len (tp 31) true),og 26 false 33 (.bin .gtr (tp 32) (ci 40)),oo 34 (.pick (tp 26) (cq true) (tp 33))] [0,3,34] (.cond (tp 34) (sr [oo 2 (.mv (cq false))] [2] .ret) .skip))) (.region [mq 8 3,oo 9 (.bin .add (tp 8) (ci 1)),mq 3 9] (some [0,3]))))))) (sr [mq 35 0,oo 36 (.len (tp 35) false),oo 37 (.bin .leq (tp 36) (ci 20)),mq 2 37] [2] .ret)))
def an_z6q89 : Ann := ann [0,1,2,4,5,3,6] ac_z6q89
theorem ok_z6q89 : okd Tryz.prog an_z6q89 ac_z6q89 Tryz.f199 := ⟨by kernel_rfl, by kernel_rfl⟩

def ac_zrlh7 : AC := (sr [oo 2 (.mv (cq false))] [0] (.seq (sr [oo 3 (.mv (ci 0))] [0,3] (.block 0 (.loop (.seq (sr [mq 6 3,mq 7 0,oo 8 (.len (tp 7) true),oo 9 (.bin .lss (tp 6) (tp 8))] [0,3,9] (.cond (tp 9) .skip (.exit 0))) (.seq (.block 1 (sr [mq 12 0,mq 13 3,oo 14 (.idxS (tp 12) (tp 13)),mq 4 14] [0,3,4] (sr [mq 15 4,oo 16 (.bin .leq (.const (.int .u8 48)) (tp 15)),mq 17 16,og 17 true 18 (.mv (tp 4)),og 17 true 19 (.bin .leq (tp 18) (.const (.int .u8 57))),oo 20 (.pick (tp 17) (tp 19) (cq false)),mq 21 20,og 21 false 22 (.mv (tp 4)),og 21 false 23 (.bin .leq (.const (.int .u8 65)) (tp 22)),og 21 false 24 (.mv (tp 23)),og 24 true 25 (.mv (tp 4)),og 24 true 26 (.bin .leq (tp 25) (.const (.int .u8 90))),og 21 false 27 (.pick (tp 24) (tp 26) (cq false)),oo 28 (.pick (tp 21) (cq true) (tp 27)),mq 29 28,og 29 false 30 (.mv (tp 4)),og 29 false 31 (.bin .leq (.const (.int .u8 97)) (tp 30)),og 29 false 32 (.mv (tp 31)),og 32 true 33 (.mv (tp 4)),og 32 true 34 (.bin .leq (tp 33) (.const (.int .u8 122))),og 29 false 35 (.pick (tp 32) (tp 34) (cq false)),oo 36 (.pick (tp 29) (cq true) (tp 35)),mq 5 36] [0,3,4,5] (.seq (sr [mq 37 4] [0,3,5,37] (.block 2 (.seq (sr [oo 39 (.bin .eql (tp 37) (.const (.int .u8 33))),mq 38 39] [0,3,5,37,38] (.cond (tp 38) .skip (sr [oo 40 (.bin .eql (tp 37) (.const (.int .u8 35))),mq 38 40] [0,3,5,37,38] (.cond (tp 38) .skip (sr [oo 41 (.bin .eql (tp 37) (.const (.int .u8 36))),mq 38 41] [0,3,5,37,38] (.cond (tp 38) .skip (sr [oo 42 (.bin .eql (tp 37) (.const (.int .u8 37))),mq 38 42] [0,3,5,37,38] (.cond (tp 38) .skip (sr [oo 43 (.bin .eql (tp 37) (.const (.int .u8 38))),mq 38 43] [0,3,5,37,38] (.cond (tp 38) .skip (sr [oo 44 (.bin .eql (tp 37) (.const (.int .u8 39))),mq 38 44] [0,3,5,37,38] (.cond (tp 38) .skip (sr [oo 45 (.bin .eql (tp 37) (.const (.int .u8 42))),mq 38 45] [0,3,5,37,38] (.cond (tp 38) .skip (sr [oo 46 (.bin .eql (tp 37) (.const (.int .u8 43))),mq 38 46] [0,3,5,37,38] (.cond (tp 38) .skip (sr [oo 47 (.bin .eql (tp 37) (.const (.int .u8 45))),mq 38 47] [0,3,5,37,38] (.cond (tp 38) .skip (sr [oo 48 (.bin .eql (tp 37) (.const (.int .u8 46))),mq 38 48] [0,3,5,37,38] (.cond (tp 38) .skip (sr [oo 49 (.bin .eql (tp 37) (.const (.int .u8 94))),mq 38 49] [0,3,5,37,38] (.cond (tp 38) .skip (sr [oo 50 (.bin .eql (tp 37) (.const (.int .u8 95))),mq 38 50] [0,3,5,37,38] (.cond (tp 38) .skip (sr [oo 51 (.bin .eql (tp 37) (.const (.int .u8 96))),mq 38 51] [0,3,5,37,38] (.cond (tp 38) .skip (sr [oo 52 (.bin .eql (tp 37) (.const (.int .u8 124))),mq 38 52] [0,3,5,37,38] (.cond (tp 38) .skip (.region [oo 53 (.bin .eql (tp 37) (.const (.int .u8 126))),mq 38 53] (some [0,3,5,38])))))))))))))))))))))))))))))) (.cond (tp 38) (.region [oo 5 (.mv (cq true))] (some [0,3,5])) .skip)))) (sr [mq 54 5,oo 55 (.un .not (tp 54))] [0,3,55] (.cond (tp 55) (sr [oo 2 (.mv (cq false))] [2] .ret) .skip)))))) (.region [mq 10 3,oo 11 (.bin .add (tp 10) (ci 1)),mq 3 11] (some [0,3]))))))) (sr [mq 56 0,oo 57 (.len (tp 56) true),oo 58 (.bin .leq (ci 1) (tp 57)),mq 59 58,og 59 true 60 (.mv (tp 0)),og 59 true 61 (.len (tp 60) true),og 59 true 62 (.bin .leq (tp 61) (ci 40)),oo 63 (.pick (tp 59) (tp 62) (cq false)),mq 2 63] [2] .ret)))
def an_zrlh7 : Ann := ann [0,1,2,4,5,6,7,8,9,10,11,12,13,14,15,16,17,18,19,20,21,22,23,24,3,25] ac_zrlh7
theorem ok_zrlh7 : okd Tryz.prog an_zrlh7 ac_zrlh7 Tryz.f200 := ⟨by kernel_rfl, by kernel_rfl⟩

def ac_z86s : AC := (sr [oo 2 (.mv (cq false))] [0] (.seq (sr [oo 3 (.mv (ci 0))] [0,3] (.block 0 (.loop (.seq (sr [mq 5 3,mq 6 0,oo 7 (.len (tp 6) true),oo 8 (.bin .lss (tp 5) (tp 7))] [0,3,8] (.cond (tp 8) .skip (.exit 0))) (.seq (.block 1 (sr [mq 11 3,oo 12 (.bin .eql (tp 11) (ci 0)),mq 13 12,og 13 false 14 (.mv (tp 3)),og 13 false 15 (.mv (tp 0)),og 13 false 16 (.len (tp 15) true),og 13 false 17 (.bin .sub (tp 16) (ci 1)),og 13 false 18 (.bin .eql (tp 14) (tp 17)),oo 19 (.pick (tp 13) (cq true) (tp 18)),mq 4 19] [0,3,4] (sr [mq 20 0,mq 21 3,oo 22 (.idxS (tp 20) (tp 21)),oo 23 (.bin .lss (tp 22) (.const (.int .u8 32))),mq 24 23,og 24 false 25 (.mv (tp 0)),og 24 false 26 (.mv (tp 3)),og 24 false 27 (.idxS (tp 25) (tp 26)),og 24 false 28 (.bin .gtr (tp 27) (.const (.int .u8 126))),oo 29 (.pick (tp 24) (cq true) (tp 28)),mq 30 29,og 30 false 31 (.mv (tp 0)),og 30 false 32 (.mv (tp 3)),og 30 false 33 (.idxS (tp 31) (tp 32)),og 30 false 34 (.bin .eql (tp 33) (.const (.int .u8 32))),og 30 false 35 (.mv (tp 34)),og 35 true 36 (.mv (tp 4)),og 30 false 37 (.pick (tp 35) (tp 36) (cq false)),oo 38 (.pick (tp 30) (cq true) (tp 37))] [0,3,38] (.cond (tp 38) (sr [oo 2 (.mv (cq false))] [2] .ret) .skip)))) (.region [mq 9 3,oo 10 (.bin .add (tp 9) (ci 1)),mq 3 10] (some [0,3]))))))) (sr [mq 39 0,oo 40 (.len (tp 39) true),oo 41 (.bin .leq (tp 40) (ci 40)),mq 2 41] [2] .ret)))
def an_z86s : Ann := ann [0,1,2,4,5,6,3,7] ac_z86s
theorem ok_z86s : okd Tryz.prog an_z86s ac_z86s Tryz.f201 := ⟨by kernel_rfl, by kernel_rfl⟩

def ac_zarsw : AC := (sr [oo 1 (.box 118 (tp 0)),oo 2 (.mv (cq false))] [1] (.seq (sr [fi 3 3 1,lq 4 3,oo 5 (.bin .neq (tp 4) (.const (.string ⟨#[]⟩))),mq 6 5,og 6 true 7 (.fieldA 3 (tp 1)),og 6 true 8 (.load none (tp 7)),og 6 true 9 (.call 73 [tp 8]),og 6 true 10 (.un .not (tp 9)),oo 11 (.pick (tp 6) (tp 10) (cq false))] [1,11] (.cond (tp 11) (sr [oo 2 (.mv (cq false))] [2] .ret) .skip)) (.seq (sr [fi 12 5 1,lq 13 12,oo 14 (.bin .eql (tp 13) (.const (.string ⟨#[]⟩)))] [1,14] (.cond (tp 14) (sr [fi 15 6 1,lq 16 15,oo 17 (.un .not (tp 16)),mq 2 17] [2] .ret) .skip)) (sr [fi 18 5 1,lq 19 18,oo 20 (.call 228 [tp 19]),mq 21 20,og 21 true 22 (.fieldA 6 (tp 1)),og 21 true 23 (.load none (tp 22)),og 21 true 24 (.mv (tp 23)),og 24 false 25 (.fieldA 5 (tp 1)),og 24 false 26 (.load none (tp 25)),og 24 false 27 (.call 229 [tp 26]),og 21 true 28 (.pick (tp 24) (cq true) (tp 27)),oo 29 (.pick (tp 21) (tp 28) (cq false)),mq 2 29] [2] .ret))))
def an_zarsw : Ann := ann (List.range 6) ac_zarsw
theorem ok_zarsw : okd Tryz.prog an_zarsw ac_zarsw Tryz.f226 := ⟨by kernel_rfl, by kernel_rfl⟩

def ac_z5okg : AC := (sr [oo 2 (.mv (.const (.string ⟨#[]⟩)))] [0] (sr [oo 3 (.mv (.const (.string ⟨#[]⟩)))] [0,3] (.seq (sr [oo 4 (.mv (ci 0))] [0,3,4] (.block 0 (.loop (.seq (sr [mq 6 4,mq 7 0,oo 8 (.len (tp 7) true),oo 9 (.bin .lss (tp 6) (tp 8))] [0,3,4,9] (.cond (tp 9) .skip (.exit 0))) (.seq (.block 1 (sr [mq 12 0,mq 13 4,oo 14 (.idxS (tp 12) (tp 13)),mq 5 14] [0,3,4,5] (.seq (sr [mq 15 5,oo 16 (.bin .leq (.const (.int .u8 65)) (tp 15)),mq 17 16,og 17 true 18 (.mv (tp 5)),og 17 true 19 (.bin .leq (tp 18) (.const (.int .u8 90))),oo 20 (.pick (tp 17) (tp 19) (cq false))] [0,3,4,5,20] (.cond (tp 20) (.region [mq 21 5,oo 22 (.bin .add (tp 21) (.const (.int .u8 32))),mq 5 22] (some [0,3,4,5])) .skip)) (.region [mq 23 3,mq 24 5,oo 25 (.bslice 5 1 [tp 24]),oo 26 (.bstr (tp 25)),oo 27 (.bin .add (tp 23) (tp 26)),mq 3 27] (some [0,3,4]))))) (.region [mq 10 4,oo 11 (.bin .add (tp 10) (ci 1)),mq 4 11] (some [0,3,4]))))))) (sr [mq 28 3,mq 2 28] [2] .ret))))
def an_z5okg : Ann := ann [0,1,2,3,5,6,7,4,8,9] ac_z5okg
theorem ok_z5okg : okd Tryz.prog an_z5okg ac_z5okg Tryz.f227 := ⟨by kernel_rfl, by kernel_rfl⟩

def ac_z9wy : AC := (sr [oo 2 (.mv (cq false))] [0] (.seq (sr [mq 4 0,oo 5 (.len (tp 4) true),oo 6 (.bin .lss (tp 5) (ci 1)),mq 7 6,og 7 false 8 (.mv (tp 0)),og 7 false 9 (.len (tp 8) true),og 7 false 10 (.bin .gtr (tp 9) (ci 60)),oo 11 (.pick (tp 7) (cq true) (tp 10)),mq 12 11,og 12 false 13 (.mv (tp 0)),og 12 false 14 (.idxS (tp 13) (ci 0)),og 12 false 15 (.bin .neq (tp 14) (.const (.int .u8 47))),oo 16 (.pick (tp 12) (cq true) (tp 15))] [0,16] (.cond (tp 16) (sr [oo 2 (.mv (cq false))] [2] .ret) .skip)) (.seq (sr [oo 3 (.mv (ci 0))] [0,3] (.block 0 (.loop (.seq (sr [mq 17 3,mq 18 0,oo 19 (.len (tp 18) true),oo 20 (.bin .lss (tp 17) (tp 19))] [0,3,20] (.cond (tp 20) .skip (.exit 0))) (.seq (.block 1 (sr [mq 23 0,mq 24 3,oo 25 (.idxS (tp 23) (tp 24)),oo 26 (.bin .lss (tp 25) (.const (.int .u8 33))),mq 27 26,og 27 false 28 (.mv (tp 0)),og 27 false 29 (.mv (tp 3)),og 27 false 30 (.idxS (tp 28) (tp 29)),og 27 false 31 (.bin .gtr (tp 30) (.const (.int .u8 126))),oo 32 (.pick (tp 27) (cq true) (tp 31)),mq 33 32,og 33 false 34 (.mv (tp 0)),og 33 false 35 (.mv (tp 3)),og 33 false 36 (.idxS (tp 34) (tp 35)),og 33 false 37 (.bin .eql (tp 36) (.const (.int .u8 63))),oo 38 (.pick (tp 33) (cq true) (tp 37)),mq 39 38,og 39 false 40 (.mv (tp 0)),og 39 false 41 (.mv (tp 3)),og 39 false 42 (.idxS (tp 40) (tp 41)),og 39 false 43 (.bin .eql (tp 42) (.const (.int .u8 35))),oo 44 (.pick (tp 39) (cq true) (tp 43))] [0,3,44] (.cond (tp 44) (sr [oo 2 (.mv (cq false))] [2] .ret) .skip))) (.region [mq 21 3,oo 22 (.bin .add (tp 21) (ci 1)),mq 3 22] (some [0,3]))))))) (sr [oo 2 (.mv (cq true))] [2] .ret))))
def an_z9wy : Ann := ann [0,1,2,3,4,6,7,5,8] ac_z9wy
theorem ok_z9wy : okd Tryz.prog an_z9wy ac_z9wy Tryz.f228 := ⟨by kernel_rfl, by kernel_rfl⟩

def ac_z3bmw : AC := (sr [oo 2 (.mv (cq false))] [0] (sr [mq 3 0,oo 4 (.call 228 [tp 3]),mq 5 4,og 5 true 6 (.mv (tp 0)),og 5 true 7 (.len (tp 6) true),og 5 true 8 (.bin .eql (tp 7) (ci 1)),og 5 true 9 (.mv (tp 8)),og 9 false 10 (.mv (tp 0)),og 9 false 11 (.mv (tp 0)),og 9 false 12 (.len (tp 11) true),og 9 false 13 (.bin .sub (tp 12) (ci 1)),og 9 false 14 (.idxS (tp 10) (tp 13)),og 9 false 15 (.bin .neq (tp 14) (.const (.int .u8 47))),og 5 true 16 (.pick (tp 9) (cq true) (tp 15)),oo 17 (.pick (tp 5) (tp 16) (cq false)),mq 2 17] [2] .ret))
def an_z3bmw : Ann := ann (List.range 2) ac_z3bmw
theorem ok_z3bmw : okd Tryz.prog an_z3bmw ac_z3bmw Tryz.f229 := ⟨by kernel_rfl, by kernel_rfl⟩

end Go.Proofs.YtbjaopoipkphnaaGreatDoor


namespace Go.Proofs.YtbjaopoipkphnaaGreatDoor
open Go Go.RowKit
set_option linter.unusedSimpArgs false
set_option linter.unusedVariables false
set_option maxRecDepth 100000

inductive Sh where
 | int (k : IntKind)
 | str
 | bool
 | slice (s : List Sh)

mutual
inductive HasSh : Sh → PD → Prop
 | int (k : IntKind) (n : Int) (h : (Lit.int k n).wf = true) : HasSh (.int k) (.raw (.int k n))
 | str (s : ByteArray) (h : s.size ≤ maxLen) : HasSh .str (.raw (.string s))
 | bool (b : Bool) : HasSh .bool (.raw (.bool b))
 | slice (s : List Sh) (els : List (List PD)) (hm : els.length ≤ maxLen) (h : ∀ r ∈ els, HasShs s r) : HasSh (.slice s) (.slice els)
inductive HasShs : List Sh → List PD → Prop
 | nil : HasShs [] []
 | cons (s : Sh) (d : PD) (ss : List Sh) (ds : List PD) (h : HasSh s d) (hs : HasShs ss ds) : HasShs (s :: ss) (d :: ds)
end

theorem HasShs.append : ∀ {s1 s2 : List Sh} {d1 d2 : List PD}, HasShs s1 d1 → HasShs s2 d2 → HasShs (s1 ++ s2) (d1 ++ d2)
 | [], _, _, _, h, k => by cases h; exact k
 | _ :: _, _, _, _, h, k => by
   cases h with
   | cons s d ss ds h hs => exact .cons _ _ _ _ h (hs.append k)

mutual
def shp (P : Program) : Nat → TypeId → Option (List Sh)
 | 0, _ => none
 | n + 1, t => match P.underlying t with
   | some (.int k) => some [.int k]
   | some .string => some [.str]
   | some .bool => some [.bool]
   | some (.slice e) => match shp P n e with
     | some s => if P.cellsOf e = s.length ∧ 0 < s.length then some [.slice s] else none
     | none => none
   | some (.struct fs) => match shpF P n fs.toList 0 with
     | some s => if s.length = P.cellsOf t then some s else none
     | none => none
   | _ => none
def shpF (P : Program) : Nat → List Field → Nat → Option (List Sh)
 | _, [], _ => some []
 | 0, _ :: _, _ => none
 | n + 1, f :: fs, off => if f.offset ≠ off then none else match shp P n f.type with
   | some s => if P.cellsOf f.type = s.length then (shpF P n fs (off + s.length)).map (s ++ ·) else none
   | none => none
end

theorem list_of {α : Type} [Inhabited α] {Q : Nat → α → Prop} : ∀ (n : Nat), (∀ j, j < n → ∃ d, Q j d) → ∃ l : List α, l.length = n ∧ ∀ j, j < n → Q j (l.getD j default)
 | 0, _ => ⟨[], rfl, fun j hj => by omega⟩
 | n + 1, h => by
   obtain ⟨l, h1, h2⟩ := list_of n (fun j hj => h j (by omega))
   obtain ⟨d, hd⟩ := h n (by omega)
   refine ⟨l ++ [d], by simp [h1], fun j hj => ?_⟩
   by_cases hjn : j < n
   ·have := h2 j hjn
    rw [List.getD_eq_getElem?_getD, List.getElem?_append_left (by omega), ← List.getD_eq_getElem?_getD]
    exact this
   ·have e : j = n := by omega
    subst e
    rw [List.getD_eq_getElem?_getD, List.getElem?_append_right (by omega), h1, Nat.sub_self]
    exact hd

section
variable {H : Type} {enc : TypeId × Value → H} {P : Program} {w : World} {spare : Nat → Bool} {held : Bool} {Fz : Nat → Nat → Prop}

theorem readF (hF : ∀ b o v, w.cell? ⟨b, o, none⟩ = some v → Fz b o) (n0 : Nat) (ih : ∀ n, n ≤ n0 → ∀ (t : TypeId) (s : List Sh) (fuel : Nat) (cs : List Value) (x : DataW H × List MemPlace), shp P n t = some s → DataW.trod enc P w 0 spare held fuel t cs = some x → ∃ ds, PReps Fz w cs ds ∧ HasShs s ds) (cs : List Value) :
 ∀ (n : Nat), n ≤ n0 + 1 → ∀ (fs : List Field) (off : Nat) (s : List Sh), shpF P n fs off = some s →
   (∀ f ∈ fs, ∃ fuel x, DataW.trod enc P w 0 spare held fuel f.type ((cs.drop f.offset).take (P.cellsOf f.type)) = some x) → off + s.length ≤ cs.length →
   ∃ ds, PReps Fz w ((cs.drop off).take s.length) ds ∧ HasShs s ds
 | _, _, [], off, s, h, _, _ => by
   have : s = [] := by
    unfold shpF at h
    simpa using h.symm
   subst this
   exact ⟨[], by simpa using PReps.nil, .nil⟩
 | 0, _, f :: fs, off, s, h, _, _ => by unfold shpF at h; cases h
 | n + 1, hn, f :: fs, off, s, h, hf, hl => by
   unfold shpF at h
   split at h
   ·cases h
   ·rename_i ho
    simp only [ne_eq, Decidable.not_not] at ho
    split at h
    ·rename_i s1 h1
     split at h
     ·rename_i hc
      obtain ⟨s2, h2, rfl⟩ := Option.map_eq_some_iff.1 h
      obtain ⟨fuel, x, hx⟩ := hf f List.mem_cons_self
      rw [ho, hc] at hx
      obtain ⟨d1, p1, q1⟩ := ih n (by omega) f.type s1 fuel _ x h1 hx
      rw [List.length_append] at hl
      obtain ⟨d2, p2, q2⟩ := readF hF n0 ih cs n (by omega) fs (off + s1.length) s2 h2 (fun g hg => hf g (List.mem_cons_of_mem _ hg)) (by omega)
      refine ⟨d1 ++ d2, ?_, q1.append q2⟩
      have e : (cs.drop off).take (s1 ++ s2).length = (cs.drop off).take s1.length ++ (cs.drop (off + s1.length)).take s2.length := by
       rw [List.length_append, List.take_add, List.drop_drop]
      rw [e]
      exact p1.append p2
     ·cases h
    ·cases h

theorem read (hF : ∀ b o v, w.cell? ⟨b, o, none⟩ = some v → Fz b o) : ∀ (n0 n : Nat), n ≤ n0 → ∀ (t : TypeId) (s : List Sh) (fuel : Nat) (cs : List Value) (x : DataW H × List MemPlace), shp P n t = some s → DataW.trod enc P w 0 spare held fuel t cs = some x → ∃ ds, PReps Fz w cs ds ∧ HasShs s ds
 | 0, n, hn, t, s, fuel, cs, x, h, hx => by
   have : n = 0 := by omega
   subst this
   unfold shp at h
   cases h
 | n0 + 1, 0, hn, t, s, fuel, cs, x, h, hx => by unfold shp at h; cases h
 | n0 + 1, n + 1, hn, t, s, fuel, cs, x, h, hx => by
   have ih := read hF n0
   unfold shp at h
   split at h
   ·rename_i k hu
    cases h
    obtain ⟨m, rfl, _, hw⟩ := DataW.trod_int hu hx
    exact ⟨[.raw (.int k m)], .cons _ _ _ _ (.raw _ rfl) .nil, .cons _ _ _ _ (.int k m hw) .nil⟩
   ·rename_i hu
    cases h
    obtain ⟨m, rfl, _, hw⟩ := DataW.trod_string hu hx
    exact ⟨[.raw (.string m)], .cons _ _ _ _ (.raw _ rfl) .nil, .cons _ _ _ _ (.str m hw) .nil⟩
   ·rename_i hu
    cases h
    obtain ⟨m, rfl, _⟩ := DataW.trod_bool hu hx
    exact ⟨[.raw (.bool m)], .cons _ _ _ _ (.raw _ rfl) .nil, .cons _ _ _ _ (.bool m) .nil⟩
   ·rename_i e hu
    split at h
    ·rename_i s1 h1
     split at h
     ·rename_i hc
      cases h
      rcases DataW.trod_slice hu hx with ⟨rfl, _⟩ | ⟨a, len, cap, elems, rest, m, _, rfl, _, _, hl, hm, hlen, hel, _, _⟩
      ·exact ⟨[.slice []], .cons _ _ _ _ (.empty _ _) .nil, .cons _ _ _ _ (.slice _ _ (by simp) (by simp)) .nil⟩
      ·have each : ∀ j, j < len → ∃ d, PReps Fz w ((w.cells? 0 (a.add (j * P.cellsOf e)) (P.cellsOf e)).getD []) d ∧ HasShs s1 d := by
        intro j hj
        have hj' := hel j hj
        rw [List.getElem?_eq_getElem (by omega)] at hj'
        obtain ⟨cj, e1, e2⟩ := Option.bind_eq_some_iff.1 hj'
        rw [e1]
        exact ih n (by omega) e s1 m cj _ h1 e2
       obtain ⟨els, hels, hall⟩ := list_of len each
       rcases Nat.eq_zero_or_pos len with h0 | hpos
       ·subst h0
        have : els = [] := List.eq_nil_of_length_eq_zero hels
        subst this
        exact ⟨[.slice []], .cons _ _ _ _ (.empty _ _) .nil, .cons _ _ _ _ (.slice _ _ (by simp) (by simp)) .nil⟩
       ·have hcell : ∀ j i u, j < len → ((w.cells? 0 (a.add (j * P.cellsOf e)) (P.cellsOf e)).getD [])[i]? = some u → w.cell? ((a.add (j * P.cellsOf e)).add i) = some u := by
         intro j i u hj hu'
         have hj' := hel j hj
         rw [List.getElem?_eq_getElem (by omega)] at hj'
         obtain ⟨cj, e1, e2⟩ := Option.bind_eq_some_iff.1 hj'
         rw [e1] at hu'
         simp only [Option.getD_some] at hu'
         unfold World.cells? at e1
         simp only [Nat.zero_le, if_true] at e1
         have hi : i < P.cellsOf e := by
          have h3 := (List.getElem?_eq_some_iff.1 hu').1
          have h4 := mapM_some_length e1
          simp at h4
          omega
         have := mapM_some_get e1 i i (by simp [hi])
         rw [hu'] at this
         exact this
        have hvl : ∀ j, j < len → ((w.cells? 0 (a.add (j * P.cellsOf e)) (P.cellsOf e)).getD []).length = P.cellsOf e := by
         intro j hj
         have hj' := hel j hj
         rw [List.getElem?_eq_getElem (by omega)] at hj'
         obtain ⟨cj, e1, e2⟩ := Option.bind_eq_some_iff.1 hj'
         rw [e1]
         simp only [Option.getD_some]
         unfold World.cells? at e1
         simp only [Nat.zero_le, if_true] at e1
         have h4 := mapM_some_length e1
         simpa using h4
        have hspot : ∃ b off, a = ⟨b, off, none⟩ := by
         have h1 := hvl 0 hpos
         have h2 := hcell 0 0 _ hpos (List.getElem?_eq_getElem (by omega))
         simp only [Nat.zero_mul, Addr.add, if_true] at h2
         unfold World.cell? at h2
         split at h2
         ·split at h2
          ·cases h2
          ·rename_i hs
           obtain ⟨b, off, sp⟩ := a
           simp only [Option.not_isSome_iff_eq_none] at hs
           subst hs
           exact ⟨b, off, rfl⟩
         ·cases h2
        obtain ⟨b, off, rfl⟩ := hspot
        refine ⟨[.slice els], .cons _ _ _ _ (.slice b off len cap (P.cellsOf e) els (fun j => (w.cells? 0 ((⟨b, off, none⟩ : Addr).add (j * P.cellsOf e)) (P.cellsOf e)).getD []) hels hpos hl (by omega) hvl (fun j i u hj hu' => ?_) (fun j hj => ?_)) .nil, .cons _ _ _ _ (.slice _ _ (by omega) (fun r hr => ?_)) .nil⟩
        ·have h5 := hcell j i u hj hu'
         rw [Addr.add_mid, Addr.add_mid] at h5
         exact ⟨h5, hF _ _ _ h5⟩
        ·exact (hall j hj).1
        ·obtain ⟨j, hj, rfl⟩ := List.getElem_of_mem hr
         have := (hall j (by omega)).2
         rwa [List.getD_eq_getElem?_getD, List.getElem?_eq_getElem hj] at this
     ·cases h
    ·cases h
   ·rename_i fs hu
    split at h
    ·rename_i s1 h1
     split at h
     ·rename_i hc
      cases h
      obtain ⟨xs, m, _, _, hl, hxl, hall⟩ := DataW.trod_struct hu hx
      obtain ⟨ds, h2, h3⟩ := readF hF n0 ih cs n (by omega) fs.toList 0 s h1 (fun f hf => by
       obtain ⟨i, hi, rfl⟩ := List.getElem_of_mem hf
       have h4 := hall i _ (by rw [← Array.getElem?_toList]; exact List.getElem?_eq_getElem hi)
       rw [List.getElem?_eq_getElem (by rw [hxl]; simpa using hi)] at h4
       exact ⟨m, _, h4⟩) (by omega)
      refine ⟨ds, ?_, h3⟩
      rw [List.drop_zero, List.take_of_length_le (by omega)] at h2
      exact h2
     ·cases h
    ·cases h
   ·cases h
end

end Go.Proofs.YtbjaopoipkphnaaGreatDoor



namespace Go.Proofs.YtbjaopoipkphnaaGreatDoor
open Go Go.RowKit Go.ChangeShapes Go.WideShapes Go.ChangeAt Go.WideMaps Go.WideElems
set_option linter.unusedSimpArgs false
set_option linter.unusedVariables false
set_option maxRecDepth 100000

theorem own_ : ownKnob Tryz.prog.godebug = none := by kernel_rfl
theorem laidOut_ : laidOutB Tryz.prog = true := by kernel_rfl

abbrev allFz (W : World) : Nat → Nat → Prop := fun b _ => b < W.heap.size

theorem allFz_cell {W : World} (b o : Nat) (v : Value) (h : W.cell? ⟨b, o, none⟩ = some v) : allFz W b o := by
 unfold World.cell? at h
 split at h
 ·rename_i hh; exact (Array.getElem?_eq_some_iff.1 hh).1
 ·cases h

section
variable {H : Type} {enc : TypeId × Value → H} {P : Program} {W : World} {base : Nat} {spare : Nat → Bool} {held : Bool}

theorem law_true {f : FuncId} {args : List D} {vs : List Value} (hp : Pure P f args (fun d => d = bln true)) (hr : Reps (gh0 (allFz W)) W args vs) :
 Calls P f vs.toArray W fun e w' => e = .returned (.bool true) ∧ Below W.heap.size W w' :=
 (hp (allFz W) W vs (fun _ _ h => h) hr).mono fun e w' ⟨v, d, Fz', h1, h2, _, h4, _, _, _, h8⟩ => by
  subst h2
  refine ⟨?_, h4⟩
  rw [h1]
  have := raw_inv h8
  rw [this]
end


theorem rows_of {α : Type} {f : α → List PD} {s : List Sh} (h : ∀ {r}, HasShs s r → ∃ a, r = f a) : ∀ {els : List (List PD)}, (∀ r ∈ els, HasShs s r) → ∃ l : List α, els = rows f l
 | [], _ => ⟨[], rfl⟩
 | r :: els, hr => by
   obtain ⟨l, rfl⟩ := rows_of h (fun r hr' => hr r (List.mem_cons_of_mem _ hr'))
   obtain ⟨a, rfl⟩ := h (hr r List.mem_cons_self)
   exact ⟨a :: l, rfl⟩

theorem int_row {r : List PD} (h : HasShs [.int .i64] r) : ∃ n, r = cInt n := by
 cases h with
 | cons _ d _ _ a1 h0 => cases h0; cases a1; exact ⟨_, rfl⟩

theorem str_row {r : List PD} (h : HasShs [.str] r) : ∃ n, r = cStr n := by
 cases h with
 | cons _ d _ _ a1 h0 => cases h0; cases a1; exact ⟨_, rfl⟩

abbrev pairShs : List Sh := [.str, .str]

theorem pair_row {r : List PD} (h : HasShs pairShs r) : ∃ a, r = APair.pd a := by
 cases h with
 | cons _ d1 _ _ a1 h1 =>
 cases h1 with
 | cons _ d2 _ _ a2 h2 =>
 cases h2
 cases a1 with
 | str x1 _ =>
 cases a2 with
 | str x2 _ =>
 exact ⟨⟨x1, x2⟩, rfl⟩

abbrev needShs : List Sh := [.int .i64, .str, .slice [.str]]

theorem need_row {r : List PD} (h : HasShs needShs r) : ∃ a, r = ANeed.pd a := by
 cases h with
 | cons _ d1 _ _ a1 h1 =>
 cases h1 with
 | cons _ d2 _ _ a2 h2 =>
 cases h2 with
 | cons _ d3 _ _ a3 h3 =>
 cases h3
 cases a1 with
 | int _ x1 _ =>
 cases a2 with
 | str x2 _ =>
 cases a3 with
 | slice _ els3 _ k3 =>
 obtain ⟨x3, rfl⟩ := rows_of str_row k3
 exact ⟨⟨x1, x2, x3⟩, rfl⟩

abbrev parentShs : List Sh := [.str, .str, .str, .int .i64]

theorem parent_row {r : List PD} (h : HasShs parentShs r) : ∃ a, r = AParent.pd a := by
 cases h with
 | cons _ d1 _ _ a1 h1 =>
 cases h1 with
 | cons _ d2 _ _ a2 h2 =>
 cases h2 with
 | cons _ d3 _ _ a3 h3 =>
 cases h3 with
 | cons _ d4 _ _ a4 h4 =>
 cases h4
 cases a1 with
 | str x1 _ =>
 cases a2 with
 | str x2 _ =>
 cases a3 with
 | str x3 _ =>
 cases a4 with
 | int _ x4 _ =>
 exact ⟨⟨x1, x2, x3, x4⟩, rfl⟩

abbrev backendShs : List Sh := [.int .i64, .str, .str, .int .i64, .int .i64]

theorem backend_row {r : List PD} (h : HasShs backendShs r) : ∃ a, r = ABackend.pd a := by
 cases h with
 | cons _ d1 _ _ a1 h1 =>
 cases h1 with
 | cons _ d2 _ _ a2 h2 =>
 cases h2 with
 | cons _ d3 _ _ a3 h3 =>
 cases h3 with
 | cons _ d4 _ _ a4 h4 =>
 cases h4 with
 | cons _ d5 _ _ a5 h5 =>
 cases h5
 cases a1 with
 | int _ x1 _ =>
 cases a2 with
 | str x2 _ =>
 cases a3 with
 | str x3 _ =>
 cases a4 with
 | int _ x4 _ =>
 cases a5 with
 | int _ x5 _ =>
 exact ⟨⟨⟨x1, x2, x3⟩, x4, x5⟩, rfl⟩

abbrev filterShs : List Sh := [.int .i64, .str, .str, .str, .int .i64, .str, .bool, .int .i64]

theorem filter_row {r : List PD} (h : HasShs filterShs r) : ∃ a, r = AFilter.pd a := by
 cases h with
 | cons _ d1 _ _ a1 h1 =>
 cases h1 with
 | cons _ d2 _ _ a2 h2 =>
 cases h2 with
 | cons _ d3 _ _ a3 h3 =>
 cases h3 with
 | cons _ d4 _ _ a4 h4 =>
 cases h4 with
 | cons _ d5 _ _ a5 h5 =>
 cases h5 with
 | cons _ d6 _ _ a6 h6 =>
 cases h6 with
 | cons _ d7 _ _ a7 h7 =>
 cases h7 with
 | cons _ d8 _ _ a8 h8 =>
 cases h8
 cases a1 with
 | int _ x1 _ =>
 cases a2 with
 | str x2 _ =>
 cases a3 with
 | str x3 _ =>
 cases a4 with
 | str x4 _ =>
 cases a5 with
 | int _ x5 _ =>
 cases a6 with
 | str x6 _ =>
 cases a7 with
 | bool x7 =>
 cases a8 with
 | int _ x8 _ =>
 exact ⟨⟨x1, x2, x3, x4, x5, x6, x7, x8⟩, rfl⟩

abbrev sideShs : List Sh := [.int .i64, .str, .str]

theorem side_row {r : List PD} (h : HasShs sideShs r) : ∃ a, r = ASide.pd a := by
 cases h with
 | cons _ d1 _ _ a1 h1 =>
 cases h1 with
 | cons _ d2 _ _ a2 h2 =>
 cases h2 with
 | cons _ d3 _ _ a3 h3 =>
 cases h3
 cases a1 with
 | int _ x1 _ =>
 cases a2 with
 | str x2 _ =>
 cases a3 with
 | str x3 _ =>
 exact ⟨⟨x1, x2, x3⟩, rfl⟩

abbrev matchShs : List Sh := [.int .i64, .str, .str, .slice pairShs, .slice pairShs]

theorem match_row {r : List PD} (h : HasShs matchShs r) : ∃ a, r = AMatch.pd a := by
 cases h with
 | cons _ d1 _ _ a1 h1 =>
 cases h1 with
 | cons _ d2 _ _ a2 h2 =>
 cases h2 with
 | cons _ d3 _ _ a3 h3 =>
 cases h3 with
 | cons _ d4 _ _ a4 h4 =>
 cases h4 with
 | cons _ d5 _ _ a5 h5 =>
 cases h5
 cases a1 with
 | int _ x1 _ =>
 cases a2 with
 | str x2 _ =>
 cases a3 with
 | str x3 _ =>
 cases a4 with
 | slice _ els4 _ k4 =>
 obtain ⟨x4, rfl⟩ := rows_of pair_row k4
 cases a5 with
 | slice _ els5 _ k5 =>
 obtain ⟨x5, rfl⟩ := rows_of pair_row k5
 exact ⟨⟨x1, x2, x3, x4, x5⟩, rfl⟩

abbrev listenerShs : List Sh := [.str, .int .i64, .bool, .str, .int .i64, .str, .str, .int .i64, .slice needShs]

theorem listener_row {r : List PD} (h : HasShs listenerShs r) : ∃ a, r = AListener.pd a := by
 cases h with
 | cons _ d1 _ _ a1 h1 =>
 cases h1 with
 | cons _ d2 _ _ a2 h2 =>
 cases h2 with
 | cons _ d3 _ _ a3 h3 =>
 cases h3 with
 | cons _ d4 _ _ a4 h4 =>
 cases h4 with
 | cons _ d5 _ _ a5 h5 =>
 cases h5 with
 | cons _ d6 _ _ a6 h6 =>
 cases h6 with
 | cons _ d7 _ _ a7 h7 =>
 cases h7 with
 | cons _ d8 _ _ a8 h8 =>
 cases h8 with
 | cons _ d9 _ _ a9 h9 =>
 cases h9
 cases a1 with
 | str x1 _ =>
 cases a2 with
 | int _ x2 _ =>
 cases a3 with
 | bool x3 =>
 cases a4 with
 | str x4 _ =>
 cases a5 with
 | int _ x5 _ =>
 cases a6 with
 | str x6 _ =>
 cases a7 with
 | str x7 _ =>
 cases a8 with
 | int _ x8 _ =>
 cases a9 with
 | slice _ els9 _ k9 =>
 obtain ⟨x9, rfl⟩ := rows_of need_row k9
 exact ⟨⟨x1, x2, x3, x4, ⟨x5, x6, x7⟩, x8, x9⟩, rfl⟩

abbrev ruleShs : List Sh := [.slice matchShs, .slice filterShs, .slice backendShs]

theorem rule_row {r : List PD} (h : HasShs ruleShs r) : ∃ a, r = ARule.pd a := by
 cases h with
 | cons _ d1 _ _ a1 h1 =>
 cases h1 with
 | cons _ d2 _ _ a2 h2 =>
 cases h2 with
 | cons _ d3 _ _ a3 h3 =>
 cases h3
 cases a1 with
 | slice _ els1 _ k1 =>
 obtain ⟨x1, rfl⟩ := rows_of match_row k1
 cases a2 with
 | slice _ els2 _ k2 =>
 obtain ⟨x2, rfl⟩ := rows_of filter_row k2
 cases a3 with
 | slice _ els3 _ k3 =>
 obtain ⟨x3, rfl⟩ := rows_of backend_row k3
 exact ⟨⟨x1, x2, x3⟩, rfl⟩

abbrev objShs : List Sh := [.int .i64, .str, .str, .bool, .slice pairShs, .slice [.int .i64], .str, .slice listenerShs, .slice parentShs, .slice [.str], .slice ruleShs, .slice sideShs, .slice sideShs]

theorem obj_row {r : List PD} (h : HasShs objShs r) : ∃ a, r = AObj.pd a := by
 cases h with
 | cons _ d1 _ _ a1 h1 =>
 cases h1 with
 | cons _ d2 _ _ a2 h2 =>
 cases h2 with
 | cons _ d3 _ _ a3 h3 =>
 cases h3 with
 | cons _ d4 _ _ a4 h4 =>
 cases h4 with
 | cons _ d5 _ _ a5 h5 =>
 cases h5 with
 | cons _ d6 _ _ a6 h6 =>
 cases h6 with
 | cons _ d7 _ _ a7 h7 =>
 cases h7 with
 | cons _ d8 _ _ a8 h8 =>
 cases h8 with
 | cons _ d9 _ _ a9 h9 =>
 cases h9 with
 | cons _ d10 _ _ a10 h10 =>
 cases h10 with
 | cons _ d11 _ _ a11 h11 =>
 cases h11 with
 | cons _ d12 _ _ a12 h12 =>
 cases h12 with
 | cons _ d13 _ _ a13 h13 =>
 cases h13
 cases a1 with
 | int _ x1 _ =>
 cases a2 with
 | str x2 _ =>
 cases a3 with
 | str x3 _ =>
 cases a4 with
 | bool x4 =>
 cases a5 with
 | slice _ els5 _ k5 =>
 obtain ⟨x5, rfl⟩ := rows_of pair_row k5
 cases a6 with
 | slice _ els6 _ k6 =>
 obtain ⟨x6, rfl⟩ := rows_of int_row k6
 cases a7 with
 | str x7 _ =>
 cases a8 with
 | slice _ els8 _ k8 =>
 obtain ⟨x8, rfl⟩ := rows_of listener_row k8
 cases a9 with
 | slice _ els9 _ k9 =>
 obtain ⟨x9, rfl⟩ := rows_of parent_row k9
 cases a10 with
 | slice _ els10 _ k10 =>
 obtain ⟨x10, rfl⟩ := rows_of str_row k10
 cases a11 with
 | slice _ els11 _ k11 =>
 obtain ⟨x11, rfl⟩ := rows_of rule_row k11
 cases a12 with
 | slice _ els12 _ k12 =>
 obtain ⟨x12, rfl⟩ := rows_of side_row k12
 cases a13 with
 | slice _ els13 _ k13 =>
 obtain ⟨x13, rfl⟩ := rows_of side_row k13
 exact ⟨⟨⟨x1, x2, x3⟩, x4, x5, x6, x7, x8, x9, x10, x11, x12, x13⟩, rfl⟩

section
variable {H : Type} {enc : TypeId × Value → H} {P : Program} {W : World} {base : Nat} {spare : Nat → Bool} {held : Bool}

theorem arg_struct {t : TypeId} {fs : Array Field} {v : Value} {d : DataW H} {ps : List MemPlace} {n : Nat} {s : List Sh} (hu : P.underlying t = some (.struct fs)) (hv : Value.okWide P W .any base t v) (h : DataW.Trod enc P W 0 spare held t v d ps)
 (hs : shp P n t = some s) : ∃ ds, Rep (gh0 (allFz W)) W (.agg (ds.map D.pd)) v ∧ HasShs s ds := by
 obtain ⟨cs, rfl, hsz⟩ := okWide_struct hu hv
 obtain ⟨fuel, hf⟩ := h
 obtain ⟨ds, h1, h2⟩ := read (Fz := allFz W) allFz_cell n n (Nat.le_refl _) t _ fuel _ _ hs hf
 have hl : cs.toList.length = P.cellsOf t := by simpa using hsz
 refine ⟨ds, ?_, h2⟩
 simp only [Rep]
 exact ⟨cs.toList, by simp, Reps.of_pd (g := gh0 (allFz W)) h1⟩

theorem arg_obj {t : TypeId} {fs : Array Field} {v : Value} {d : DataW H} {ps : List MemPlace} {n : Nat} (hu : P.underlying t = some (.struct fs)) (hv : Value.okWide P W .any base t v) (h : DataW.Trod enc P W 0 spare held t v d ps)
 (hs : shp P n t = some objShs) : ∃ o : AObj, Rep (gh0 (allFz W)) W o.d v := by
 obtain ⟨ds, h1, h2⟩ := arg_struct hu hv h hs
 obtain ⟨o, rfl⟩ := obj_row h2
 exact ⟨o, h1⟩

end

end Go.Proofs.YtbjaopoipkphnaaGreatDoor



namespace Go.Proofs.YtbjaopoipkphnaaGreatDoor
open Go Go.RowKit
set_option linter.unusedSimpArgs false
set_option linter.unusedVariables false
set_option maxRecDepth 100000

def updR (t : Nat) (e : TypeId) (sz : Nat) (row : List (List PD)) : D → D
 | .pd (.raw v) => .pd (.raw v)
 | .nils => .nils
 | .ptr n o => .ptr n o
 | .own _ _ _ s => if s = t then .own e sz row t else .any
 | _ => .any

def updG (t : Nat) (e : TypeId) (sz : Nat) (row : List (List PD)) (fr : List (Nat × D)) : List (Nat × D) := fr.map fun p => (p.1, updR t e sz row p.2)
def updB (t : Nat) (e : TypeId) (sz : Nat) (row : List (List PD)) (bs : List (Nat × List D)) : List (Nat × List D) := bs.map fun p => (p.1, p.2.map (updR t e sz row))

variable {C : Ctx} {st : St} {g : Gh} {a : Act} {w w' : World}

theorem updR_rep {t : Nat} {e : TypeId} {sz : Nat} {row : List (List PD)} {V : Value} (htk : g.tk t = some (V, e)) (hrep : PRep g.Fz w' V (.slice row)) (hlens : ∀ r ∈ row, r.length = sz) {d : D} {v : Value} (h : Rep g w d v) : Rep g w' (updR t e sz row d) v := by
 unfold updR
 split
 ·simp only [Rep] at h ⊢
  exact h.flat0
 ·simp only [Rep] at h ⊢
  exact h
 ·simp only [Rep] at h ⊢
  exact h
 ·split
  ·rename_i hst
   subst hst
   simp only [Rep] at h ⊢
   obtain ⟨_, h4, _⟩ := h
   rw [htk] at h4
   have hv : v = V := (congrArg Prod.fst (Option.some.inj h4)).symm
   subst hv
   exact ⟨hrep, htk, hlens⟩
  ·simp only [Rep]
 ·simp only [Rep]

theorem updR_reps {t : Nat} {e : TypeId} {sz : Nat} {row : List (List PD)} {V : Value} (htk : g.tk t = some (V, e)) (hrep : PRep g.Fz w' V (.slice row)) (hlens : ∀ r ∈ row, r.length = sz) : ∀ {ds : List D} {vs : List Value}, Reps g w ds vs → Reps g w' (ds.map (updR t e sz row)) vs
 | [], _, h => by simpa only [Reps, List.map_nil] using h
 | d :: ds, _, h => by
   simp only [Reps] at h
   obtain ⟨v, vs', rfl, hv, hs⟩ := h
   simp only [List.map_cons, Reps]
   exact ⟨v, vs', rfl, updR_rep htk hrep hlens hv, updR_reps htk hrep hlens hs⟩

theorem SR.newrow (hs : SR C st g a w) {t sz : Nat} {e : TypeId} {row : List (List PD)} {b len cap : Nat} (htk : g.tk t = some (.slice (some ⟨b, 0, none⟩) len cap, e)) (hsolo : st.hs = .solo) (hgb : w.grownBy w' (some b))
 {cur cur' : Array Value} (hold : w.heap[b]? = some (.cells cur e (0, 0))) (hnew : w'.heap[b]? = some (.cells cur' e (0, 0))) (hsz : cur'.size = cur.size)
 (hrep : PRep g.Fz w' (.slice (some ⟨b, 0, none⟩) len cap) (.slice row)) (hlens : ∀ r ∈ row, r.length = sz) :
 SR C ⟨updG t e sz row st.fr, updB t e sz row st.bs, [], st.hs⟩ g a w' := by
 have m := hs.mem
 obtain ⟨ie, n, xs, hie, hpos, hown, hfz⟩ := m.tks t _ _ htk
 obtain ⟨hbl, hfo⟩ := hfz b rfl
 have hS := C.solo _ _ (by rw [← hsolo]; exact hs.x)
 have hbge : C.w0.heap.size ≤ b := hbl.resolve_right (hS b)
 obtain ⟨hxl, hform⟩ := hown
 obtain ⟨hn, hnc, hcm, hcs⟩ : n = len ∧ n ≤ cap ∧ cap ≤ maxLen ∧ cur.size = cap * ie.size := by
  rcases hform with ⟨h1, _⟩ | ⟨g1, cap1, cur1, h1, _, h3, h4, h5, h6, h7⟩
  ·cases h1
  ·cases h1
   rw [hold] at h3
   cases h3
   exact ⟨rfl, h4, h5, h6⟩
 subst hn
 have hown : w.ownsRow 0 e ie.size (.slice (some ⟨b, 0, none⟩) n cap) n xs := ⟨hxl, hform⟩
 have hot : ∀ k, k < w.heap.size → k ≠ b → w'.heap[k]? = w.heap[k]? := fun k hk hne => hgb.block k hk (fun e => hne (Option.some.inj e))
 have hown' : w'.ownsRow 0 e ie.size (.slice (some ⟨b, 0, none⟩) n cap) n (cur'.toList.take (n * ie.size)) := by
  have hcap := Nat.mul_le_mul_right ie.size hnc
  refine ⟨by simp; omega, .inr ⟨b, cap, cur', rfl, Nat.zero_le _, hnew, hnc, hcm, by omega, rfl⟩⟩
 exact {
  defers := hs.defers
  size := hs.size
  rep := fun k d hd => by
   rw [updG, lk_map] at hd
   obtain ⟨d0, h0, rfl⟩ := Option.map_eq_some_iff.1 hd
   obtain ⟨h1, h2⟩ := hs.rep k d0 h0
   exact ⟨h1, updR_rep htk hrep hlens h2⟩
  mem := {
   os := hgb.os.trans m.os
   tape := hgb.tape.trans m.tape
   output := hgb.output.trans m.output
   hsz := Nat.le_trans m.hsz hgb.size
   old := fun k hk h1 h2 => (hot k (Nat.lt_of_lt_of_le hk m.hsz) (by omega)).trans (m.old k hk h1 h2)
   keep := fun b1 o1 hf => by
    obtain ⟨h1, h2⟩ := m.keep b1 o1 hf
    refine ⟨h1, ?_⟩
    by_cases e1 : b1 = b
    ·exfalso
     subst e1
     have h3 := hfo o1 h1
     have h4 : w.cell? ⟨b1, o1, none⟩ = some (xs[o1]'(by omega)) := own_cell hown rfl o1 _ (List.getElem?_eq_getElem _)
     rw [h4] at h2
     have h5 : C.w0.heap[b1]? = none := Array.getElem?_eq_none hbge
     simp [World.cell?, h5] at h2
    ·exact (World.cell?_of_block (hot b1 (m.fzlt b1 o1 h1) e1)).trans h2
   newfz := m.newfz
   fzlt := fun b1 o1 hf => Nat.lt_of_lt_of_le (m.fzlt b1 o1 hf) hgb.size
   bxs := fun n1 ds hd => by
    rw [updB, lk_map] at hd
    obtain ⟨ds0, h0, rfl⟩ := Option.map_eq_some_iff.1 hd
    obtain ⟨b1, cs, t1, h1, h2, h3⟩ := m.bxs n1 ds0 h0
    refine ⟨b1, cs, t1, h1, (hot b1 (m.bxok n1 b1 h1).1 (fun e1 => m.bxtk n1 t b1 _ _ h1 htk (by rw [e1]; rfl))).trans h2, updR_reps htk hrep hlens h3⟩
   mps := fun _ _ h => by simp [lk] at h
   bxok := fun n1 b1 h => ⟨Nat.lt_of_lt_of_le (m.bxok n1 b1 h).1 hgb.size, (m.bxok n1 b1 h).2⟩
   bxinj := m.bxinj
   tks := fun s u f hsf => by
    by_cases e1 : s = t
    ·subst e1
     rw [htk] at hsf
     cases hsf
     exact ⟨ie, n, _, hie, hpos, hown', hfz⟩
    ·obtain ⟨i1, n1, xs1, h1, h2, h3, h4⟩ := m.tks s u f hsf
     refine ⟨i1, n1, xs1, h1, h2, h3.kept hgb ?_, h4⟩
     right
     intro e2
     exact e1 (m.tkinj s t _ _ _ _ b hsf htk e2 rfl)
   tkinj := m.tkinj
   bxtk := m.bxtk
   dfs := fun D hD => by
    obtain ⟨h1, h2⟩ := m.dfs D hD
    have hD' : D < w.heap.size := by
     rcases Nat.lt_or_ge D w.heap.size with h | h
     ·exact h
     ·rw [Array.getElem?_eq_none h] at h2; cases h2
    refine ⟨h1, (hot D hD' (fun e1 => ?_)).trans h2⟩
    subst e1
    rw [hold] at h2; cases h2
   dnd := m.dnd
   bxdf := m.bxdf
   bxdm := m.bxdm }
  x := C.Xok _ _ _ (fun k => k = b) _ _ hs.x ⟨hgb.os, hgb.tape, hgb.output, hgb.size, fun k hk hne => hot k hk hne⟩ (fun k e1 => .inr (.inl ⟨t, _, _, htk, by rw [e1]; rfl⟩)) (fun _ h => .inl h)
  fix := hs.fix }


abbrev i32 (n : Int) : D := .pd (.raw (.int .i32 n))
abbrev u8 (n : Int) : D := .pd (.raw (.int .u8 n))

def octet (c : Int) : Bool := (decide (97 ≤ c) && decide (c ≤ 122)) || (decide (48 ≤ c) && decide (c ≤ 57)) || decide (c = 45)

theorem dns_octet (c : Int) : Pure Tryz.prog 120 [i32 c] (fun d => d = bln (octet c)) := by
 refine pure_of_run follows an_zsl5t Tryz.func120 rfl ok_zsl5t.1 ok_zsl5t.2 (by simp [Tryz.ntmps120]) ?_
 rw [run_start]
 simp only [ac_zsl5t, go_sem, simprocAttr]
 repeat' (first | refine GifP.mk (fun _ => ?_) (fun _ => ?_) | refine Gif.mk (fun _ => ?_) (fun _ => ?_))
 all_goals
  simp only [retK, resD, retL, oneD, simprocAttr, Tryz.results120]
  exact ⟨_, rfl, rfl, congrArg bln (by first | rfl | (rw [Bool.eq_iff_iff]; simp only [octet]; (first | (simp; done) | (simp; omega) | (simp [*]; done) | (simp [*]; omega))) | (simp_all [octet]; done) | (exfalso; omega))⟩

theorem dns_Label_1 (c : Int) : Pure Tryz.prog 119 [i32 c] (fun d => d = bln (!octet c)) := by
 refine pure_of_run follows an_zmcx0 Tryz.func119 rfl ok_zmcx0.1 ok_zmcx0.2 (by simp [Tryz.ntmps119]) ?_
 rw [run_start]
 simp only [ac_zmcx0, go_sem, simprocAttr]
 refine (dns_octet _).callW (enters_of Tryz.func120 rfl rfl) _ rfl rfl ?_
 rintro d rfl
 simp only [go_sem, simprocAttr]
 simp only [retK, resD, retL, oneD, simprocAttr, Tryz.results119]
 exact ⟨_, rfl, rfl, rfl⟩

def runeIdx (p : Int → Bool) (s : ByteArray) : Nat → Nat → Int
 | 0, _ => -1
 | f + 1, pos => if pos < s.size then (if p (Utf8.decode s pos).1 then (pos : Int) else runeIdx p s f (pos + (Utf8.decode s pos).2)) else -1

theorem width_pos (s : ByteArray) (pos : Nat) : 1 ≤ (Utf8.decode s pos).2 := by
 unfold Utf8.decode
 dsimp only
 repeat' split
 all_goals simp

theorem runeIdx_end {p : Int → Bool} {s : ByteArray} {f pos : Nat} (h : ¬ pos < s.size) : runeIdx p s f pos = -1 := by cases f <;> simp [runeIdx, h]

theorem strings_indexFunc (p : Int → Bool) (f : FuncId) (he : Enters Tryz.prog f) (hp : ∀ c, Pure Tryz.prog f [i32 c] (fun d => d = bln (p c))) (s : ByteArray) :
 Pure Tryz.prog 166 [str s, .fn f [], bln true] (fun d => d = int (runeIdx p s s.size 0)) := by
 refine pure_of_run follows an_zkca0 Tryz.func166 rfl ok_zkca0.1 ok_zkca0.2 (by simp [Tryz.ntmps166]) ?_
 rw [run_start]
 simp only [ac_zkca0, go_sem, simprocAttr]
 refine loopS (fun k st => ∃ pos : Nat, s.size ≤ pos + k ∧ runeIdx p s k pos = runeIdx p s s.size 0 ∧
  st = ⟨[(1, .fn f []), (2, bln true), (10, .ptr 10 0)], [], [(10, .sit s pos)], .no⟩) s.size _ (Weak.refl _ _) ⟨0, by omega, rfl, rfl⟩ ?_
 rintro k st ⟨pos, hk, hr, rfl⟩
 by_cases hlt : pos < s.size
 ·obtain ⟨k, rfl⟩ : ∃ m, k = m + 1 := ⟨k - 1, by omega⟩
  have hw := width_pos s pos
  simp only [go_sem, simprocAttr, hlt]
  refine (hp _).callW he _ rfl rfl ?_
  rintro d rfl
  simp only [runeIdx, hlt, if_true] at hr
  simp only [go_sem, simprocAttr]
  refine ⟨fun h => ?_, fun h => ?_⟩
  ·simp only [retK, resD, retL, oneD, simprocAttr, Tryz.results166]
   simp at h
   simp only [h, if_true] at hr
   exact ⟨_, rfl, rfl, congrArg int hr⟩
  ·simp at h
   simp only [h, Bool.false_eq_true, if_false] at hr
   refine ⟨k, _, ?_, ?_, pos + (Utf8.decode s pos).2, ?_, hr, rfl⟩
   ·omega
   ·exact lessA
   ·omega
 ·simp only [go_sem, simprocAttr, hlt]
  simp only [retK, resD, retL, oneD, simprocAttr, Tryz.results166]
  rw [runeIdx_end hlt] at hr
  exact ⟨_, rfl, rfl, congrArg int hr⟩

theorem strings_IndexFunc (p : Int → Bool) (f : FuncId) (he : Enters Tryz.prog f) (hp : ∀ c, Pure Tryz.prog f [i32 c] (fun d => d = bln (p c))) (s : ByteArray) :
 Pure Tryz.prog 121 [str s, .fn f []] (fun d => d = int (runeIdx p s s.size 0)) := by
 refine pure_of_run follows an_zgrrf Tryz.func121 rfl ok_zgrrf.1 ok_zgrrf.2 (by simp [Tryz.ntmps121]) ?_
 rw [run_start]
 simp only [ac_zgrrf, go_sem, simprocAttr]
 refine (strings_indexFunc p f he hp s).callW (enters_of Tryz.func166 rfl rfl) _ rfl rfl ?_
 rintro d rfl
 simp only [go_sem, simprocAttr]
 simp only [retK, resD, retL, oneD, simprocAttr, Tryz.results121]
 exact ⟨_, rfl, rfl, rfl⟩

def label (s : ByteArray) : Bool :=
 !decide (s = ⟨#[]⟩) && decide (s.size ≤ 20) && decide (runeIdx (fun c => !octet c) s s.size 0 < 0) && (match s[0]? with | some b => !decide (b.toNat = 45) | none => false) && (match s[s.size - 1]? with | some b => !decide (b.toNat = 45) | none => false)

theorem at_byte {s : ByteArray} {i : Nat} (h : i < s.size) : ∃ b, s[i]? = some b := ⟨s[i], by simp [h]⟩

theorem size_pos {s : ByteArray} (h : s ≠ ⟨#[]⟩) : 0 < s.size := by
 rcases Nat.eq_zero_or_pos s.size with h0 | h0
 ·exact absurd (by cases s with | mk a => simp only [ByteArray.size] at h0; rw [Array.eq_empty_of_size_eq_zero h0]) h
 ·exact h0

theorem dns_Label (s : ByteArray) : Pure Tryz.prog 71 [str s] (fun d => d = bln (label s)) := by
 refine pure_of_run follows an_zovze Tryz.func71 rfl ok_zovze.1 ok_zovze.2 (by simp [Tryz.ntmps71]) ?_
 rw [run_start]
 simp only [ac_zovze, go_sem, simprocAttr]
 refine GifP.mk (fun h1 => ?_) (fun h1 => ?_)
 ·simp only [retK, resD, retL, oneD, simprocAttr, Tryz.results71]
  exact ⟨_, rfl, rfl, congrArg bln (by simp [label, h1])⟩
 have hpos := size_pos h1
 refine GifP.mk (fun h2 => ?_) (fun h2 => ?_)
 rotate_left
 ·simp only [retK, resD, retL, oneD, simprocAttr, Tryz.results71]
  exact ⟨_, rfl, rfl, congrArg bln (by simp [label]; omega)⟩
 refine (strings_IndexFunc _ _ (enters_of Tryz.func119 rfl rfl) dns_Label_1 s).callW (enters_of Tryz.func121 rfl rfl) _ rfl rfl ?_
 rintro d rfl
 obtain ⟨b0, hb0⟩ : ∃ b, s[0]? = some b := at_byte hpos
 obtain ⟨b1, hb1⟩ : ∃ b, s[s.size - 1]? = some b := at_byte (by omega)
 have hw : IntKind.i64.wrap ((s.size : Int) - 1) = ((s.size - 1 : Nat) : Int) := by rw [IntWalk.i64_in _ (by omega)]; omega
 simp only [go_sem, simprocAttr, hb0, hb1, hw]
 have h20 : s.size ≤ 20 := by omega
 repeat' (first | refine GifP.mk (fun _ => ?_) (fun _ => ?_) | refine Gif.mk (fun _ => ?_) (fun _ => ?_))
 all_goals
  simp only [retK, resD, retL, oneD, simprocAttr, Tryz.results71]
  exact ⟨_, rfl, rfl, congrArg bln (by first | rfl | (rw [Bool.eq_iff_iff]; simp only [label, hb0, hb1, h1, h20]; (first | (simp; done) | (simp; omega) | (simp [*]; done) | (simp [*]; omega))) | (simp_all [label, hb0, hb1, h1, h20]; done) | (exfalso; omega))⟩


theorem pure_of_calls {P : Program} {f : FuncId} {args : List D} {vs : List Value} {v : Value} {d : D} (ha : ∀ g w us, Reps g w args us → us = vs) (hd : d.closed = true) (hv : ∀ g w, Rep g w d v)
 (h : ∀ w, Calls P f vs.toArray w fun e w' => e = .returned v ∧ w' = w) : Pure P f args (fun x => x = d) := by
 intro Fz w us hlt hr
 obtain rfl := ha _ _ _ hr
 refine (h w).mono ?_
 rintro e w' ⟨rfl, rfl⟩
 exact ⟨v, d, Fz, rfl, rfl, hd, Below.refl _ _, Ex.refl _ _, hlt, fun _ _ h _ => h, hv _ _⟩

set_option maxHeartbeats 1000000 in
set_option maxRecDepth 100000 in
theorem run_stringslite_IndexByte (s : ByteArray) (c : Int) (w : World) :
 Calls Tryz.prog 231 #[.string s, .int .u8 c] w fun e w' => e = .returned (.int .i64 (Lib.indexByte s.data.toList c.toNat.toUInt8)) ∧ w' = w := by
 go_enter Tryz.func231, Tryz.ntmps231
 go_wp2
 rw [run_callFunc_extern Tryz.func245 (by kernel_rfl) (by kernel_rfl) (by kernel_rfl) (e := Extern.BytealgIndexByte.indexByte) (by kernel_rfl), Lib.run_indexByteString]
 simp only [Result.andThen]
 rw [Oper.upon_value]
 go_wp2
 go_ret
 exact ⟨rfl, rfl⟩

theorem rep_raw_inv {g : Gh} {w : World} {v u : Value} (h : Rep g w (.pd (.raw v)) u) : u = v := by
 simp only [Rep] at h
 cases h; rfl

theorem reps_two {g : Gh} {w : World} {a b : Value} {us : List Value} (h : Reps g w [.pd (.raw a), .pd (.raw b)] us) : us = [a, b] := by
 simp only [Reps] at h
 obtain ⟨x, r, rfl, hx, y, r', rfl, hy, rfl⟩ := h
 rw [rep_raw_inv hx, rep_raw_inv hy]

theorem stringslite_IndexByte (s : ByteArray) (c : Int) : Pure Tryz.prog 231 [str s, u8 c] (fun d => d = int (Lib.indexByte s.data.toList c.toNat.toUInt8)) :=
 pure_of_calls (vs := [.string s, .int .u8 c]) (v := .int .i64 (Lib.indexByte s.data.toList c.toNat.toUInt8)) (fun _ _ _ h => reps_two h) rfl (fun _ _ => by simp only [Rep]; exact .raw _ rfl) (run_stringslite_IndexByte s c)

theorem strings_IndexByte (s : ByteArray) (c : Int) : Pure Tryz.prog 215 [str s, u8 c] (fun d => d = int (Lib.indexByte s.data.toList c.toNat.toUInt8)) := by
 refine pure_of_run follows an_zixxy Tryz.func215 rfl ok_zixxy.1 ok_zixxy.2 (by simp [Tryz.ntmps215]) ?_
 rw [run_start]
 simp only [ac_zixxy, go_sem, simprocAttr]
 refine (stringslite_IndexByte s c).callW (enters_of Tryz.func231 rfl rfl) _ rfl rfl ?_
 rintro d rfl
 simp only [go_sem, simprocAttr]
 simp only [retK, resD, retL, oneD, simprocAttr, Tryz.results215]
 exact ⟨_, rfl, rfl, rfl⟩

theorem stringslite_Index (s : ByteArray) (c : UInt8) : Pure Tryz.prog 207 [str s, str ⟨#[c]⟩] (fun d => d = int (Lib.indexByte s.data.toList c)) := by
 refine pure_of_run follows an_zn6ys Tryz.func207 rfl ok_zn6ys.1 ok_zn6ys.2 (by simp [Tryz.ntmps207]) ?_
 rw [run_start]
 have h1 : (ByteArray.mk #[c]).size = 1 := rfl
 have h2 : (ByteArray.mk #[c])[0]? = some c := rfl
 have h3 : ((1 : Nat) : Int) = 1 := rfl
 have h4 : ((1 : Int) = 0) = False := by simp
 simp only [ac_zn6ys, go_sem, simprocAttr, h1, h2, h3, h4]
 refine GifP.mk (fun he => ?_) (fun he => ?_)
 ·simp only [retK, resD, retL, oneD, simprocAttr, Tryz.results207]
  exact ⟨_, rfl, rfl, congrArg int (by rw [← he]; simp [Lib.indexByte])⟩
 refine (stringslite_IndexByte s c.toNat).callW (enters_of Tryz.func231 rfl rfl) _ rfl rfl ?_
 rintro d rfl
 simp only [go_sem, simprocAttr]
 simp only [retK, resD, retL, oneD, simprocAttr, Tryz.results207]
 exact ⟨_, rfl, rfl, congrArg int (by simp)⟩

theorem strings_Index (s : ByteArray) (c : UInt8) : Pure Tryz.prog 210 [str s, str ⟨#[c]⟩] (fun d => d = int (Lib.indexByte s.data.toList c)) := by
 refine pure_of_run follows an_z89f Tryz.func210 rfl ok_z89f.1 ok_z89f.2 (by simp [Tryz.ntmps210]) ?_
 rw [run_start]
 simp only [ac_z89f, go_sem, simprocAttr]
 refine (stringslite_Index s c).callW (enters_of Tryz.func207 rfl rfl) _ rfl rfl ?_
 rintro d rfl
 simp only [go_sem, simprocAttr]
 simp only [retK, resD, retL, oneD, simprocAttr, Tryz.results210]
 exact ⟨_, rfl, rfl, rfl⟩

def splitB (c : UInt8) : Nat → ByteArray → List ByteArray
 | 0, s => [s]
 | f + 1, s => if Lib.indexByte s.data.toList c < 0 then [s] else s.extract 0 (Lib.indexByte s.data.toList c).toNat :: splitB c f (s.extract ((Lib.indexByte s.data.toList c).toNat + 1) s.size)

theorem indexByte_lt : ∀ (l : List UInt8) (c : UInt8), Lib.indexByte l c < 0 ∨ Lib.indexByte l c < l.length
 | [], c => by simp [Lib.indexByte]
 | b :: l, c => by
   have := indexByte_lt l c
   simp only [Lib.indexByte, List.length_cons]
   split
   ·right; omega
   ·split
    ·left; decide
    ·right; rename_i h1 h2; have := Lib.indexByte_ge l c; simp at h2; omega

theorem size_list (s : ByteArray) : s.data.toList.length = s.size := rfl

theorem drop_cons_at {α : Type} {l r : List α} {i : Nat} {x : α} (h : l.drop i = x :: r) : l[i]? = some x ∧ l.drop (i + 1) = r := by
 constructor
 ·have := congrArg (fun m => m[0]?) h
  simpa using this
 ·have := congrArg (fun m => m.drop 1) h
  simpa [List.drop_drop] using this

theorem splitB_end {c : UInt8} {k : Nat} {r : ByteArray} (h : Lib.indexByte r.data.toList c < 0) : splitB c k r = [r] := by
 cases k <;> simp [splitB, h]

set_option maxRecDepth 100000 in
theorem splitSeq_1 (c : UInt8) (s : ByteArray) (hs : s.size ≤ 1000000) : IterB Tryz.prog 208 [(500001, 0), (500002, 0), (500003, 0)] [(500001, [str ⟨#[c]⟩]), (500002, [str s]), (500003, [int 0])] ((splitB c s.size s).map Value.string) := by
 refine iter_of_run follows an_zjcnn Tryz.func208 rfl ok_zjcnn.1 ok_zjcnn.2 (by simp [Tryz.ntmps208]) rfl ?_
 intro l
 rw [run_start]
 have h1 : (ByteArray.mk #[c]).size = 1 := rfl
 have h3 : ((1 : Nat) : Int) = 1 := rfl
 have h4 : ((1 : Int) = 0) = False := by simp
 obtain ⟨X, hX⟩ : ∃ X, X = ((splitB c s.size s).map Value.string).map ([·]) := ⟨_, rfl⟩
 rw [← hX]
 simp only [ac_zjcnn, go_sem, simprocAttr, h1, h3, h4]
 refine loopS (fun k st => ∃ (i : Nat) (r : ByteArray), r.size ≤ k ∧ r.size ≤ 1000000 ∧ X.drop i = ((splitB c k r).map Value.string).map ([·]) ∧
  st = ⟨[(0, yieldD l), (1, .ptr 500001 0), (2, .ptr 500002 0), (3, .ptr 500003 0)], [(500001, [str ⟨#[c]⟩]), (500002, [str r]), (500003, [int 0])], [], .it l X i false⟩) s.size _ ?_ ⟨0, s, Nat.le_refl _, hs, hX, rfl⟩ ?_
 ·exact lessA
 rintro k st ⟨i, r, hk, hrs, hdr, rfl⟩
 obtain ⟨j, hj⟩ : ∃ j, Lib.indexByte r.data.toList c = j := ⟨_, rfl⟩
 simp only [go_sem, simprocAttr]
 refine (strings_Index r c).callW (enters_of Tryz.func210 rfl rfl) _ rfl rfl ?_
 rintro d rfl
 rw [hj]
 by_cases hj0 : j < 0
 ·rw [splitB_end (by omega)] at hdr
  obtain ⟨e1, e2⟩ := drop_cons_at hdr
  have e3 : X.length ≤ i + 1 := by simpa using List.drop_eq_nil_iff.1 e2
  have e4 : i < X.length := (List.getElem?_eq_some_iff.1 e1).1
  simp only [go_sem, simprocAttr, hj0, e1]
  exact ⟨⟨[], _, _, rfl, rfl, fun _ => by omega⟩, ⟨[], _, _, rfl, rfl, fun h => by cases h⟩⟩
 ·obtain ⟨m, rfl⟩ : ∃ m : Nat, j = m := ⟨j.toNat, by omega⟩
  have hm : m < r.size := by
   have := indexByte_lt r.data.toList c
   rw [hj, size_list] at this
   omega
  obtain ⟨k, rfl⟩ : ∃ n, k = n + 1 := ⟨k - 1, by omega⟩
  have hsp : splitB c (k + 1) r = r.extract 0 m :: splitB c k (r.extract (m + 1) r.size) := by
   rw [splitB, hj, if_neg hj0, Int.toNat_natCast]
  rw [hsp] at hdr
  obtain ⟨e1, e2⟩ := drop_cons_at hdr
  have w1 : IntKind.i64.wrap ((m : Int) + 0) = (m : Int) := by rw [IntWalk.i64_in _ (by omega)]; omega
  have w2 : IntKind.i64.wrap ((m : Int) + 1) = ((m + 1 : Nat) : Int) := by rw [IntWalk.i64_in _ (by omega)]; omega
  have c1 : (m ≤ r.size) = True := by simp; omega
  have c2 : (m + 1 ≤ r.size) = True := by simp; omega
  have hsz : (r.extract (m + 1) r.size).size = r.size - (m + 1) := by simp [ByteArray.size_extract]
  simp only [go_sem, simprocAttr, hj0, w1, w2, h1, h3, c1, c2, e1]
  refine ⟨⟨k, _, ?_, ?_, i + 1, r.extract (m + 1) r.size, ?_, ?_, e2, rfl⟩, ⟨[], _, _, rfl, rfl, fun h => by cases h⟩⟩
  ·omega
  ·exact lessA
  ·omega
  ·omega

theorem strings_splitSeq (s sep : ByteArray) : Full Tryz.prog 165 [str s, str sep, int 0] [] true (fun d bs => d = .fn 208 [(4, 0), (3, 0), (5, 0)] ∧ bs = [(4, [str sep]), (3, [str s]), (5, [int 0])]) := by
 refine full_of_run follows an_z70r5 Tryz.func165 rfl ok_z70r5.1 ok_z70r5.2 (by simp [Tryz.ntmps165]) (by simp [Tryz.ntmps165]) (.inl rfl) ?_
 rw [run_start]
 simp only [ac_z70r5, go_sem, simprocAttr]
 simp only [retK, fullK, resD, retL, oneD, simprocAttr, Tryz.results165]
 exact ⟨_, _, rfl, by simp [lessL, lk], rfl, rfl⟩

theorem strings_SplitSeq (s sep : ByteArray) : Full Tryz.prog 118 [str s, str sep] [] true (fun d bs => d = .fn 208 [(200001, 0), (200002, 0), (200003, 0)] ∧ bs = [(200001, [str sep]), (200002, [str s]), (200003, [int 0])]) := by
 refine full_of_run follows an_zln7r Tryz.func118 rfl ok_zln7r.1 ok_zln7r.2 (by simp [Tryz.ntmps118]) (by simp [Tryz.ntmps118]) (.inl rfl) ?_
 rw [run_start]
 simp only [ac_zln7r, go_sem, simprocAttr]
 refine (strings_splitSeq s sep).callW (enters_of Tryz.func165 rfl rfl) _ false [] [] [(4, 200001), (3, 200002), (5, 200003)] [] rfl rfl rfl ?_
 rintro d bs ⟨rfl, rfl⟩
 simp only [go_sem, simprocAttr]
 simp only [retK, fullK, resD, retL, oneD, simprocAttr, Tryz.results118]
 exact ⟨_, _, rfl, by simp [lessL, lk], rfl, rfl⟩

def dname (s : ByteArray) : Bool := decide (s.size ≤ 60) && (splitB 46 s.size s).all label

set_option maxRecDepth 100000 in
theorem dns_Name (s : ByteArray) : Pure Tryz.prog 70 [str s] (fun d => d = bln (dname s)) := by
 refine pure_of_run follows an_zmldt Tryz.func70 rfl ok_zmldt.1 ok_zmldt.2 (by simp [Tryz.ntmps70]) ?_
 rw [run_start]
 simp only [ac_zmldt, go_sem, simprocAttr]
 refine GifP.mk (fun h => ?_) (fun h => ?_)
 ·simp only [retK, iterK, resD, resA, AOp.ex, St.ev, retL, oneD, simprocAttr, ret_zmldt]
  exact ⟨_, rfl, rfl, congrArg bln (by simp only [dname]; simp; omega)⟩
 have h60 : s.size ≤ 60 := by omega
 refine (strings_SplitSeq s ⟨#[46]⟩).callW (enters_of Tryz.func118 rfl rfl) _ false [] [] [(200001, 200011), (200002, 200012), (200003, 200013)] [] rfl rfl rfl ?_
 rintro d bs ⟨rfl, rfl⟩
 simp only [go_sem, simprocAttr]
 refine rangeS ((splitB 46 s.size s).map Value.string) (fun i bs => (∀ j x, j < i → (splitB 46 s.size s)[j]? = some x → label x = true) ∧ bs = [(2, [bln false])]) rfl rfl rfl
  ((splitSeq_1 46 s (by omega)).iterW (enters_of Tryz.func208 rfl rfl) false [(200011, 500001), (200012, 500002), (200013, 500003)] rfl rfl rfl) ⟨fun _ _ h => absurd h (Nat.not_lt_zero _), rfl⟩ ?_ ?_
 ·rintro i v bs hv ⟨hpre, rfl⟩
  rw [List.getElem?_map] at hv
  obtain ⟨x, hx, rfl⟩ := Option.map_eq_some_iff.1 hv
  simp only [go_sem, simprocAttr]
  refine (dns_Label x).callW (enters_of Tryz.func71 rfl rfl) _ rfl rfl ?_
  rintro d rfl
  simp only [go_sem, simprocAttr]
  refine Gif.mk (fun hl => ?_) (fun hl => ?_)
  ·refine fun j y hj hy => ?_
   rcases Nat.lt_or_ge j i with h' | h'
   ·exact hpre j y h' hy
   ·obtain rfl : j = i := by omega
    rw [hx] at hy; cases hy; exact hl
  ·simp only [retK, iterK, resD, resA, AOp.ex, St.ev, retL, oneD, simprocAttr, ret_zmldt]
   refine ⟨_, rfl, rfl, congrArg bln ?_⟩
   have : (splitB 46 s.size s).all label = false := List.all_eq_false.2 ⟨x, List.mem_of_getElem? hx, by simp [hl]⟩
   simp [dname, this]
 ·rintro bs ⟨hall, rfl⟩
  simp only [go_sem, simprocAttr]
  simp only [retK, iterK, resD, resA, AOp.ex, St.ev, retL, oneD, simprocAttr, ret_zmldt]
  refine ⟨_, rfl, rfl, congrArg bln ?_⟩
  have : (splitB 46 s.size s).all label = true := List.all_eq_true.2 fun x hx => by
   obtain ⟨j, hj⟩ := List.getElem?_of_mem hx
   exact hall j x (by have := (List.getElem?_eq_some_iff.1 hj).1; simpa using this) hj
  simp [dname, this, h60]


def hasPrefix (s p : ByteArray) : Bool := decide (p.size ≤ s.size) && decide (s.extract 0 p.size = p)
def hasSuffix (s p : ByteArray) : Bool := decide (p.size ≤ s.size) && decide (s.extract (s.size - p.size) s.size = p)

theorem stringslite_HasPrefix (s p : ByteArray) : Pure Tryz.prog 213 [str s, str p] (fun d => d = bln (hasPrefix s p)) := by
 refine pure_of_run follows an_zntfc Tryz.func213 rfl ok_zntfc.1 ok_zntfc.2 (by simp [Tryz.ntmps213]) ?_
 rw [run_start]
 by_cases h : p.size ≤ s.size
 ·have h1 : ((p.size : Int) ≤ (s.size : Int)) = True := by simp; omega
  have h2 : (p.size ≤ s.size) = True := by simp [h]
  simp only [ac_zntfc, go_sem, simprocAttr, h1, h2]
  simp only [retK, resD, retL, oneD, simprocAttr, Tryz.results213]
  exact ⟨_, rfl, rfl, congrArg bln (by simp [hasPrefix, h])⟩
 ·have h1 : ((p.size : Int) ≤ (s.size : Int)) = False := by simp; omega
  simp only [ac_zntfc, go_sem, simprocAttr, h1]
  simp only [retK, resD, retL, oneD, simprocAttr, Tryz.results213]
  exact ⟨_, rfl, rfl, congrArg bln (by simp [hasPrefix, h])⟩

theorem stringslite_HasSuffix (s p : ByteArray) (hs : s.size ≤ 1000000) : Pure Tryz.prog 250 [str s, str p] (fun d => d = bln (hasSuffix s p)) := by
 refine pure_of_run follows an_z30tk Tryz.func250 rfl ok_z30tk.1 ok_z30tk.2 (by simp [Tryz.ntmps250]) ?_
 rw [run_start]
 by_cases h : p.size ≤ s.size
 ·have h1 : ((p.size : Int) ≤ (s.size : Int)) = True := by simp; omega
  have h2 : (s.size - p.size ≤ s.size) = True := by simp
  have h3 : IntKind.i64.wrap ((s.size : Int) - (p.size : Int)) = ((s.size - p.size : Nat) : Int) := by rw [IntWalk.i64_in _ (by omega)]; omega
  simp only [ac_z30tk, go_sem, simprocAttr, h1, h2, h3]
  simp only [retK, resD, retL, oneD, simprocAttr, Tryz.results250]
  exact ⟨_, rfl, rfl, congrArg bln (by simp [hasSuffix, h])⟩
 ·have h1 : ((p.size : Int) ≤ (s.size : Int)) = False := by simp; omega
  simp only [ac_z30tk, go_sem, simprocAttr, h1]
  simp only [retK, resD, retL, oneD, simprocAttr, Tryz.results250]
  exact ⟨_, rfl, rfl, congrArg bln (by simp [hasSuffix, h])⟩

theorem strings_HasPrefix (s p : ByteArray) : Pure Tryz.prog 243 [str s, str p] (fun d => d = bln (hasPrefix s p)) := by
 refine pure_of_run follows an_zc2tl Tryz.func243 rfl ok_zc2tl.1 ok_zc2tl.2 (by simp [Tryz.ntmps243]) ?_
 rw [run_start]
 simp only [ac_zc2tl, go_sem, simprocAttr]
 (repeat' (first | (refine GifP.mk (fun _ => ?_) (fun _ => ?_)) | (refine Gif.mk (fun _ => ?_) (fun _ => ?_)) | (refine (stringslite_HasPrefix _ _).callW (enters_of Tryz.func213 rfl rfl) _ rfl rfl ?_; rintro _ rfl; try simp only [go_sem, simprocAttr]))) <;> (simp only [retK, resD, retL, oneD, simprocAttr, Tryz.results243]; exact ⟨_, rfl, rfl, congrArg bln (by first | rfl | (rw [Bool.eq_iff_iff]; simp only [hasPrefix]; (first | (simp; done) | (simp; omega) | (simp [*]; done) | (simp [*]; omega))) | (simp_all [hasPrefix]; done) | (exfalso; omega))⟩)

theorem strings_HasSuffix (s p : ByteArray) (hs : s.size ≤ 1000000) : Pure Tryz.prog 244 [str s, str p] (fun d => d = bln (hasSuffix s p)) := by
 refine pure_of_run follows an_zq3h5 Tryz.func244 rfl ok_zq3h5.1 ok_zq3h5.2 (by simp [Tryz.ntmps244]) ?_
 rw [run_start]
 simp only [ac_zq3h5, go_sem, simprocAttr]
 (repeat' (first | (refine GifP.mk (fun _ => ?_) (fun _ => ?_)) | (refine Gif.mk (fun _ => ?_) (fun _ => ?_)) | (refine (stringslite_HasSuffix _ _ hs).callW (enters_of Tryz.func250 rfl rfl) _ rfl rfl ?_; rintro _ rfl; try simp only [go_sem, simprocAttr]))) <;> (simp only [retK, resD, retL, oneD, simprocAttr, Tryz.results244]; exact ⟨_, rfl, rfl, congrArg bln (by first | rfl | (rw [Bool.eq_iff_iff]; simp only [hasSuffix]; (first | (simp; done) | (simp; omega) | (simp [*]; done) | (simp [*]; omega))) | (simp_all [hasSuffix]; done) | (exfalso; omega))⟩)

def cutPrefix (s p : ByteArray) : ByteArray := if hasPrefix s p then s.extract p.size s.size else s

theorem stringslite_CutPrefix (s p : ByteArray) : Pure Tryz.prog 174 [str s, str p] (fun d => d = .tup [str (cutPrefix s p), bln (hasPrefix s p)]) := by
 refine pure_of_run follows an_zd73u Tryz.func174 rfl ok_zd73u.1 ok_zd73u.2 (by simp [Tryz.ntmps174]) ?_
 rw [run_start]
 simp only [ac_zd73u, go_sem, simprocAttr]
 refine (stringslite_HasPrefix s p).callW (enters_of Tryz.func213 rfl rfl) _ rfl rfl ?_
 rintro d rfl
 simp only [go_sem, simprocAttr]
 refine Gif.mk (fun h => ?_) (fun h => ?_)
 ·have h1 : p.size ≤ s.size := by simp only [hasPrefix, Bool.and_eq_true, decide_eq_true_eq] at h; exact h.1
  have h2 : (p.size ≤ s.size) = True := by simp [h1]
  simp only [go_sem, simprocAttr, h2]
  simp only [retK, resD, retL, oneD, simprocAttr, Tryz.results174]
  exact ⟨_, rfl, rfl, by simp [cutPrefix, h, D.pub, D.pubs]⟩
 ·simp only [retK, resD, retL, oneD, simprocAttr, Tryz.results174]
  exact ⟨_, rfl, rfl, by simp [cutPrefix, h, D.pub, D.pubs]⟩

theorem strings_CutPrefix (s p : ByteArray) : Pure Tryz.prog 136 [str s, str p] (fun d => d = .tup [str (cutPrefix s p), bln (hasPrefix s p)]) := by
 refine pure_of_run follows an_zgqff Tryz.func136 rfl ok_zgqff.1 ok_zgqff.2 (by simp [Tryz.ntmps136]) ?_
 rw [run_start]
 simp only [ac_zgqff, go_sem, simprocAttr]
 refine (stringslite_CutPrefix s p).callW (enters_of Tryz.func174 rfl rfl) _ rfl rfl ?_
 rintro d rfl
 simp only [go_sem, simprocAttr]
 simp only [retK, resD, retL, oneD, simprocAttr, Tryz.results136]
 exact ⟨_, rfl, rfl, rfl⟩

def hostMay (p : ByteArray) : Bool := decide (p = ⟨#[]⟩) || (decide (p.size ≤ 60) && dname (cutPrefix p ⟨#[42, 46]⟩) && (hasPrefix p ⟨#[42, 46]⟩ || decide (cutPrefix p ⟨#[42, 46]⟩ = p)))

set_option maxRecDepth 100000 in
theorem host_May (p : ByteArray) : Pure Tryz.prog 91 [str p] (fun d => d = bln (hostMay p)) := by
 refine pure_of_run follows an_z2osy Tryz.func91 rfl ok_z2osy.1 ok_z2osy.2 (by simp [Tryz.ntmps91]) ?_
 rw [run_start]
 simp only [ac_z2osy, go_sem, simprocAttr]
 (repeat' (first | (refine GifP.mk (fun _ => ?_) (fun _ => ?_)) | (refine Gif.mk (fun _ => ?_) (fun _ => ?_)) | ((first | refine (strings_CutPrefix _ _).callW (enters_of Tryz.func136 rfl rfl) _ rfl rfl ?_ | refine (dns_Name _).callW (enters_of Tryz.func70 rfl rfl) _ rfl rfl ?_); rintro _ rfl; try simp only [go_sem, simprocAttr]))) <;> (simp only [retK, resD, retL, oneD, simprocAttr, Tryz.results91]; exact ⟨_, rfl, rfl, congrArg bln (by first | rfl | (rw [Bool.eq_iff_iff]; simp only [hostMay]; (first | (simp; done) | (simp; omega) | (simp [*]; done) | (simp [*]; omega))) | (simp_all [hostMay]; done) | (exfalso; omega))⟩)

def labValue (s : ByteArray) : Bool := decide (s = ⟨#[]⟩) || label s

theorem label_value (s : ByteArray) : Pure Tryz.prog 122 [str s] (fun d => d = bln (labValue s)) := by
 refine pure_of_run follows an_ziqey Tryz.func122 rfl ok_ziqey.1 ok_ziqey.2 (by simp [Tryz.ntmps122]) ?_
 rw [run_start]
 simp only [ac_ziqey, go_sem, simprocAttr]
 (repeat' (first | (refine GifP.mk (fun _ => ?_) (fun _ => ?_)) | (refine Gif.mk (fun _ => ?_) (fun _ => ?_)) | (refine (dns_Label _).callW (enters_of Tryz.func71 rfl rfl) _ rfl rfl ?_; rintro _ rfl; try simp only [go_sem, simprocAttr]))) <;> (simp only [retK, resD, retL, oneD, simprocAttr, Tryz.results122]; exact ⟨_, rfl, rfl, congrArg bln (by first | rfl | (rw [Bool.eq_iff_iff]; simp only [labValue]; (first | (simp; done) | (simp; omega) | (simp [*]; done) | (simp [*]; omega))) | (simp_all [labValue]; done) | (exfalso; omega))⟩)

theorem bytes_get (s : ByteArray) (i : Nat) : s[i]? = s.data.toList[i]? := by
 by_cases h : i < s.size
 ·rw [getElem?_pos s i h, getElem?_pos s.data.toList i (by rw [size_list]; exact h)]; rfl
 ·rw [getElem?_neg s i h, getElem?_neg s.data.toList i (by rw [size_list]; exact h)]

theorem byte_at {s : ByteArray} {i : Nat} (h : i < s.size) : ∃ b, s[i]? = some b ∧ s.data.toList.drop i = b :: s.data.toList.drop (i + 1) := by
 obtain ⟨b, hb⟩ := at_byte h
 exact ⟨b, hb, drop_at (by rw [← bytes_get]; exact hb)⟩

theorem byte_end {s : ByteArray} {i : Nat} (h : ¬ i < s.size) : s.data.toList.drop i = [] := List.drop_eq_nil_of_le (by rw [size_list]; omega)

theorem i64_succ {i : Nat} (h : i < 1000000000) : IntKind.i64.wrap ((i : Int) + 1) = ((i + 1 : Nat) : Int) := by rw [IntWalk.i64_in _ (by omega)]; omega

def runeAll (p : Int → Bool) (s : ByteArray) : Nat → Nat → Bool
 | 0, _ => true
 | f + 1, pos => if pos < s.size then p (Utf8.decode s pos).1 && runeAll p s f (pos + (Utf8.decode s pos).2) else true

theorem runeAll_end {p : Int → Bool} {s : ByteArray} {f pos : Nat} (h : ¬ pos < s.size) : runeAll p s f pos = true := by cases f <;> simp [runeAll, h]

def pathRune (c : Int) : Bool := decide (33 ≤ c) && decide (c ≤ 126) && !decide (c = 63) && !decide (c = 35)

def pathIs (s : ByteArray) : Bool := runeAll pathRune s s.size 0 && hasPrefix s ⟨#[47]⟩ && decide (s.size ≤ 60)

set_option maxRecDepth 100000 in
theorem path_Is (s : ByteArray) : Pure Tryz.prog 217 [str s] (fun d => d = bln (pathIs s)) := by
 refine pure_of_run follows an_z6j2 Tryz.func217 rfl ok_z6j2.1 ok_z6j2.2 (by simp [Tryz.ntmps217]) ?_
 rw [run_start]
 simp only [ac_z6j2, go_sem, simprocAttr]
 refine loopS (fun k st => ∃ pos : Nat, s.size ≤ pos + k ∧ runeAll pathRune s k pos = runeAll pathRune s s.size 0 ∧
  st = ⟨[(0, str s), (6, .ptr 6 0)], [], [(6, .sit s pos)], .no⟩) s.size _ (Weak.refl _ _) ⟨0, by omega, rfl, rfl⟩ ?_
 rintro k st ⟨pos, hk, hr, rfl⟩
 by_cases hlt : pos < s.size
 ·obtain ⟨k, rfl⟩ : ∃ m, k = m + 1 := ⟨k - 1, by omega⟩
  have hw := width_pos s pos
  simp only [runeAll, hlt, if_true] at hr
  simp only [go_sem, simprocAttr, hlt]
  obtain ⟨c, hc⟩ : ∃ c : Int, ((Utf8.decode s pos).1 : Int) = c := ⟨_, rfl⟩
  rw [hc] at hr ⊢
  have bad : ∀ (h : pathRune c = false), pathIs s = false := fun h => by
   rw [h] at hr
   simp only [Bool.false_and] at hr
   simp [pathIs, ← hr]
  repeat' (first | refine GifP.mk (fun _ => ?_) (fun _ => ?_) | refine Gif.mk (fun _ => ?_) (fun _ => ?_))
  iterate 4
   ·simp only [retK, iterK, resD, retL, oneD, simprocAttr, Tryz.results217]
    exact ⟨_, rfl, rfl, congrArg bln (bad (by simp [pathRune]; omega)).symm⟩
  ·have hg : pathRune c = true := by simp [pathRune]; omega
   rw [hg, Bool.true_and] at hr
   refine ⟨k, _, ?_, ?_, pos + (Utf8.decode s pos).2, ?_, hr, rfl⟩
   ·omega
   ·exact lessA
   ·omega
 ·simp only [go_sem, simprocAttr, hlt]
  rw [runeAll_end hlt] at hr
  have hr' := hr.symm
  clear hr
  refine (strings_HasPrefix s _).callW (enters_of Tryz.func243 rfl rfl) _ rfl rfl ?_
  rintro d rfl
  simp only [go_sem, simprocAttr]
  repeat' (first | refine GifP.mk (fun _ => ?_) (fun _ => ?_) | refine Gif.mk (fun _ => ?_) (fun _ => ?_))
  all_goals
   simp only [retK, iterK, resD, retL, oneD, simprocAttr, Tryz.results217]
   exact ⟨_, rfl, rfl, congrArg bln (by first | rfl | (rw [Bool.eq_iff_iff]; simp only [pathIs, hr']; (first | (simp; done) | (simp; omega) | (simp [*]; done) | (simp [*]; omega))) | (simp_all [pathIs, hr']; done) | (exfalso; omega))⟩


def low (c : Int) : Int := IntKind.u8.wrap (BitVec.ofInt IntKind.u8.bits c ||| BitVec.ofInt IntKind.u8.bits 32).toNat

def foldO (c : Int) : Int := if 65 ≤ c ∧ c ≤ 90 then low c else c

structure FoldW (w : World) (s : ByteArray) (i : Nat) (wr : World) : Prop where
 below : Below w.heap.size w wr
 row : ∃ cs z, wr.heap[w.heap.size]? = some (.cells cs 5 z) ∧ s.size ≤ cs.size ∧ cs.size ≤ z.1 ∧ ∀ (j : Nat) b, s[j]? = some b → cs[j]? = some (.int .u8 (if j < i then foldO b.toNat else b.toNat))

theorem FoldW.next {w : World} {s : ByteArray} {i : Nat} {b : UInt8} (hb : s[i]? = some b) {cs : Array Value} {z : Nat × Nat} (h2 : s.size ≤ cs.size) (h3 : cs.size ≤ z.1)
 (h4 : ∀ (j : Nat) b, s[j]? = some b → cs[j]? = some (.int .u8 (if j < i then foldO b.toNat else b.toNat))) (cs' : Array Value) (W : World) (q1 : W.heap[w.heap.size]? = some (.cells cs' 5 z)) (q2 : cs'.size = cs.size) (q3 : Below w.heap.size w W)
 (q4 : ∀ j, j ≠ i → cs'[j]? = cs[j]?) (q5 : cs'[i]? = some (.int .u8 (foldO b.toNat))) : FoldW w s (i + 1) W :=
 ⟨q3, cs', z, q1, by omega, by omega, fun j b' hj => by
  by_cases e : j = i
  ·subst e
   rw [hb] at hj; cases hj
   rw [if_pos (by omega)]; exact q5
  ·rw [q4 j e, h4 j b' hj]
   by_cases e2 : j < i
   ·rw [if_pos e2, if_pos (by omega)]
   ·rw [if_neg e2, if_neg (by omega)]⟩

def fold (s : ByteArray) : ByteArray := octStr (s.data.toList.map fun b => foldO b.toNat)

set_option maxHeartbeats 1000000 in
theorem run_Fold (s : ByteArray) (hs : s.size ≤ 1000000) (w : World) :
 Calls Tryz.prog 222 #[.string s] w fun e w' => e = .returned (.string (fold s)) ∧ Below w.heap.size w w' := by
 have hconv := fun w' => Lib.run_convert_string_bytes (P := Tryz.prog) w' 9 109 5 s Tryz.underlying9 Tryz.underlying109 Tryz.underlying5
 go_enter Tryz.func222, Tryz.ntmps222
 go_wp2
 go_loopg [10] s.size (fun k c wr => ∃ i : Nat, k = s.size - i ∧ i ≤ s.size ∧ c = .int .i64 i ∧ FoldW w s i wr)
 case atStart =>
  have hcs : s.size ≤ (Lib.bytesCells w 5 s).size := by simp [Lib.bytesCells]
  refine ⟨0, rfl, Nat.zero_le _, rfl, ?_, _, _, Lib.bytesWorld_at_new w _ s, hcs, Nat.le_refl _, fun j b hb => ?_⟩
  ·exact ⟨rfl, rfl, rfl, by rw [Lib.bytesWorld_size]; omega, fun k hk => Lib.bytesWorld_at_old w _ s k hk⟩
  ·rw [if_neg (Nat.not_lt_zero j)]
   have hj : j < s.size := (List.getElem?_eq_some_iff.1 ((bytes_get s j).symm.trans hb)).1
   have hb' : s.data[j]? = some b := by rw [← Array.getElem?_toList, ← bytes_get]; exact hb
   simp only [Lib.bytesCells]
   rw [Array.getElem?_append_left (by simpa using hj), Array.getElem?_map, hb']
   rfl
 case round =>
  obtain ⟨i, hk, hi, rfl, hf⟩ := hrel
  obtain ⟨hbel, cs, z, h1, h2, h3, h4⟩ := hf
  by_cases hlt : i < s.size
  ·obtain ⟨b, hb⟩ := at_byte hlt
   have hcs := h4 i b hb
   rw [if_neg (Nat.lt_irrefl i)] at hcs
   have hcell : wr.cell? ⟨w.heap.size, i, none⟩ = some (.int .u8 b.toNat) := by simp [World.cell?, h1, hcs]
   have hfz : wr.frozen? ⟨w.heap.size, i, none⟩ = false := by
    simp [World.frozen?, h1]; omega
   have hlt' : (i : Int) < (s.size : Int) := by omega
   go_wp2
   ·have hset : (wr.setCell ⟨w.heap.size, i, none⟩ (.int .u8 (bits .or .u8 (b.toNat : Int) 32))).heap[w.heap.size]? = some (.cells (cs.setIfInBounds i (.int .u8 (bits .or .u8 (b.toNat : Int) 32))) 5 z) := by
     simp only [World.setCell, Array.getElem?_modify, if_true, h1, Option.map_some]
     rfl
    go_roundg (s.size - (i + 1))
    case measure => omega
    case rel =>
     refine ⟨i + 1, rfl, by omega, by simp, FoldW.next hb h2 h3 h4 _ _ hset (by simp) (hbel.setCell (Nat.le_refl _) _) (fun j hj => by simp [Array.getElem?_setIfInBounds, Ne.symm hj]) ?_⟩
     have hic : i < cs.size := by omega
     rw [Array.getElem?_setIfInBounds, if_pos rfl, if_pos hic]
     rw [foldO, if_pos (by omega)]
     rfl
   ·go_roundg (s.size - (i + 1))
    case measure => omega
    case rel => exact ⟨i + 1, rfl, by omega, by simp, FoldW.next hb h2 h3 h4 _ _ h1 rfl hbel (fun _ _ => rfl) (by rw [hcs, foldO, if_neg (by omega)])⟩
   ·go_roundg (s.size - (i + 1))
    case measure => omega
    case rel => exact ⟨i + 1, rfl, by omega, by simp, FoldW.next hb h2 h3 h4 _ _ h1 rfl hbel (fun _ _ => rfl) (by rw [hcs, foldO, if_neg (by omega)])⟩
  ·have hi2 : i = s.size := by omega
   subst hi2
   have hload := run_loadCells_list (P := Tryz.prog) (w := wr) (⟨w.heap.size, 0, none⟩ : Addr) ((s.data.toList.map fun b => foldO b.toNat).map (Value.int .u8)) (fun j v hj => by
    rw [List.getElem?_map, List.getElem?_map] at hj
    cases hb : s.data.toList[j]? with
    | none => rw [hb] at hj; cases hj
    | some b =>
      rw [hb] at hj
      cases hj
      have hjs : j < s.size := (List.getElem?_eq_some_iff.1 hb).1
      have := h4 j b (by rw [bytes_get]; exact hb)
      rw [if_pos hjs] at this
      rw [add_off, Nat.zero_add]
      simp [World.cell?, h1, this])
   have hlen : ((s.data.toList.map fun b => foldO b.toNat).map (Value.int .u8)).length = s.size := by simp [size_list]
   rw [hlen] at hload
   have hback := run_bytesToString wr ⟨w.heap.size, 0, none⟩ s.size (grownCap w s.size 0 5) _ hload
   have hconv2 := (run_convert_bytes_string (P := Tryz.prog) wr 109 9 5 (some ⟨w.heap.size, 0, none⟩) s.size (grownCap w s.size 0 5) Tryz.underlying109 Tryz.underlying5 Tryz.underlying9).trans hback
   have hlt' : ¬ (s.size : Int) < (s.size : Int) := by omega
   go_wp2
   go_ret
   exact ⟨rfl, hbel⟩

theorem dns_Fold (s : ByteArray) (hs : s.size ≤ 1000000) : Pure Tryz.prog 222 [str s] (fun d => d = str (fold s)) := by
 intro Fz w us hlt hr
 simp only [Reps] at hr
 obtain ⟨x, r, rfl, hx, rfl⟩ := hr
 obtain rfl := rep_raw_inv hx
 refine (run_Fold s hs w).mono ?_
 rintro e w' ⟨rfl, hb⟩
 exact ⟨_, _, Fz, rfl, rfl, rfl, hb, fun b o hf => ⟨hf, hb.cell (hlt b o hf)⟩, fun b o hf => Nat.lt_of_lt_of_le (hlt b o hf) hb.size, fun _ _ h _ => h, by simp only [Rep]; exact .raw _ rfl⟩


theorem pathIs_size {s : ByteArray} (h : pathIs s = true) : s.size ≤ 1000000 := by
 simp only [pathIs, Bool.and_eq_true, decide_eq_true_eq] at h
 omega

def pathAbove (s : ByteArray) : Bool := pathIs s && (decide (s = ⟨#[47]⟩) || !hasSuffix s ⟨#[47]⟩)

theorem path_above (s : ByteArray) : Pure Tryz.prog 218 [str s] (fun d => d = bln (pathAbove s)) := by
 refine pure_of_run follows an_zgeto Tryz.func218 rfl ok_zgeto.1 ok_zgeto.2 (by simp [Tryz.ntmps218]) ?_
 rw [run_start]
 simp only [ac_zgeto, go_sem, simprocAttr]
 (repeat' (first | (refine GifP.mk (fun _ => ?_) (fun _ => ?_)) | (refine Gif.mk (fun _ => ?_) (fun _ => ?_)) | ((first | refine (path_Is _).callW (enters_of Tryz.func217 rfl rfl) _ rfl rfl ?_ | refine (strings_HasSuffix _ _ (pathIs_size (by assumption))).callW (enters_of Tryz.func244 rfl rfl) _ rfl rfl ?_); rintro _ rfl; try simp only [go_sem, simprocAttr]))) <;> (simp only [retK, resD, retL, oneD, simprocAttr, Tryz.results218]; exact ⟨_, rfl, rfl, congrArg bln (by first | rfl | (rw [Bool.eq_iff_iff]; simp only [pathAbove]; (first | (simp; done) | (simp; omega) | (simp [*]; done) | (simp [*]; omega))) | (simp_all [pathAbove]; done) | (exfalso; omega))⟩)

def pathMay (k : Int) (v : ByteArray) : Bool := (decide (k = 1) && pathIs v) || (decide (k = 2) && pathAbove v)

theorem path_May (k : Int) (v : ByteArray) : Pure Tryz.prog 181 [.agg [int k, str v]] (fun d => d = bln (pathMay k v)) := by
 refine pure_of_run follows an_z2uwa Tryz.func181 rfl ok_z2uwa.1 ok_z2uwa.2 (by simp [Tryz.ntmps181]) ?_
 rw [run_start]
 simp only [ac_z2uwa, go_sem, simprocAttr]
 (repeat' (first | (refine GifP.mk (fun _ => ?_) (fun _ => ?_)) | (refine Gif.mk (fun _ => ?_) (fun _ => ?_)) | ((first | refine (path_Is _).callW (enters_of Tryz.func217 rfl rfl) _ rfl rfl ?_ | refine (path_above _).callW (enters_of Tryz.func218 rfl rfl) _ rfl rfl ?_); rintro _ rfl; try simp only [go_sem, simprocAttr]))) <;> (simp only [retK, resD, retL, oneD, simprocAttr, Tryz.results181]; exact ⟨_, rfl, rfl, congrArg bln (by first | rfl | (rw [Bool.eq_iff_iff]; simp only [pathMay]; (first | (simp; done) | (simp; omega) | (simp [*]; done) | (simp [*]; omega))) | (simp_all [pathMay]; done) | (exfalso; omega))⟩)

def methodRune (c : Int) : Bool := decide (65 ≤ c) && decide (c ≤ 90)

theorem rule_Method_1 (c : Int) : Pure Tryz.prog 219 [i32 c] (fun d => d = bln (!methodRune c)) := by
 refine pure_of_run follows an_zluy0 Tryz.func219 rfl ok_zluy0.1 ok_zluy0.2 (by simp [Tryz.ntmps219]) ?_
 rw [run_start]
 simp only [ac_zluy0, go_sem, simprocAttr]
 (repeat' (first | (refine GifP.mk (fun _ => ?_) (fun _ => ?_)) | (refine Gif.mk (fun _ => ?_) (fun _ => ?_)))) <;> (simp only [retK, resD, retL, oneD, simprocAttr, Tryz.results219]; exact ⟨_, rfl, rfl, congrArg bln (by first | rfl | (rw [Bool.eq_iff_iff]; simp only [methodRune]; (first | (simp; done) | (simp; omega) | (simp [*]; done) | (simp [*]; omega))) | (simp_all [methodRune]; done) | (exfalso; omega))⟩)

def method (s : ByteArray) : Bool := !decide (s = ⟨#[]⟩) && decide (s.size ≤ 10) && decide (runeIdx (fun c => !methodRune c) s s.size 0 < 0)

theorem rule_Method (s : ByteArray) : Pure Tryz.prog 182 [str s] (fun d => d = bln (method s)) := by
 refine pure_of_run follows an_zjt8m Tryz.func182 rfl ok_zjt8m.1 ok_zjt8m.2 (by simp [Tryz.ntmps182]) ?_
 rw [run_start]
 simp only [ac_zjt8m, go_sem, simprocAttr]
 (repeat' (first | (refine GifP.mk (fun _ => ?_) (fun _ => ?_)) | (refine Gif.mk (fun _ => ?_) (fun _ => ?_)) | (refine (strings_IndexFunc _ _ (enters_of Tryz.func219 rfl rfl) rule_Method_1 _).callW (enters_of Tryz.func121 rfl rfl) _ rfl rfl ?_; rintro _ rfl; try simp only [go_sem, simprocAttr]))) <;> (simp only [retK, resD, retL, oneD, simprocAttr, Tryz.results182]; exact ⟨_, rfl, rfl, congrArg bln (by first | rfl | (rw [Bool.eq_iff_iff]; simp only [method]; (first | (simp; done) | (simp; omega) | (simp [*]; done) | (simp [*]; omega))) | (simp_all [method]; done) | (exfalso; omega))⟩)

def pairMay (p : APair) : Bool := !decide (p.name = ⟨#[]⟩) && decide (p.name.size ≤ 40) && decide (p.val.size ≤ 40)

def queryMay (l : List APair) : Bool := l.all pairMay && decide (l.length ≤ 20)

set_option maxRecDepth 100000 in
theorem query_May (l : List APair) (hl : l.length ≤ 1000000) : Pure Tryz.prog 186 [.pd (.slice (rows APair.pd l))] (fun d => d = bln (queryMay l)) := by
 refine pure_of_run follows an_zr0tf Tryz.func186 rfl ok_zr0tf.1 ok_zr0tf.2 (by simp [Tryz.ntmps186]) ?_
 rw [run_start]
 simp only [ac_zr0tf, go_sem, simprocAttr]
 refine loopS (fun k st => ∃ i : Nat, k = l.length - i ∧ i ≤ l.length ∧ (l.drop i).all pairMay = l.all pairMay ∧
  st = ⟨[(0, .pd (.slice (rows APair.pd l))), (5, .pd (.slice (rows APair.pd l))), (6, int l.length), (7, int i)], [], [], .no⟩) l.length _ (Weak.refl _ _) ⟨0, rfl, Nat.zero_le _, rfl, rfl⟩ ?_
 rintro k st ⟨i, rfl, hi, hr, rfl⟩
 by_cases hlt : i < l.length
 ·obtain ⟨x, hx⟩ := at_lt hlt
  have hlt' : ((i : Int) < (l.length : Int)) = True := by simp; omega
  rw [drop_at hx, List.all_cons] at hr
  have bad : pairMay x = false → queryMay l = false := fun h => by
   rw [h, Bool.false_and] at hr
   simp [queryMay, ← hr]
  simp only [go_sem, simprocAttr, hlt', rows_get hx, i64_succ (show i < 1000000000 by omega)]
  repeat' (first | refine GifP.mk (fun _ => ?_) (fun _ => ?_) | refine Gif.mk (fun _ => ?_) (fun _ => ?_))
  iterate 3
   ·simp only [retK, iterK, resD, retL, oneD, simprocAttr, Tryz.results186]
    exact ⟨_, rfl, rfl, congrArg bln (bad (by simp [pairMay, *]; try omega)).symm⟩
  ·have hg : pairMay x = true := by simp [pairMay, *]; omega
   rw [hg, Bool.true_and] at hr
   refine ⟨l.length - (i + 1), _, ?_, ?_, i + 1, rfl, ?_, hr, rfl⟩
   ·omega
   ·exact lessA
   ·omega
 ·have hlt' : ((i : Int) < (l.length : Int)) = False := by simp; omega
  rw [List.drop_eq_nil_of_le (by omega)] at hr
  have hr' := hr.symm
  rw [List.all_nil] at hr'
  simp only [go_sem, simprocAttr, hlt']
  repeat' (first | refine GifP.mk (fun _ => ?_) (fun _ => ?_) | refine Gif.mk (fun _ => ?_) (fun _ => ?_))
  all_goals
   simp only [retK, iterK, resD, retL, oneD, simprocAttr, Tryz.results186]
   exact ⟨_, rfl, rfl, congrArg bln (by first | rfl | (rw [Bool.eq_iff_iff]; simp only [queryMay, hr']; (first | (simp; done) | (simp; omega) | (simp [*]; done) | (simp [*]; omega))) | (simp_all [queryMay, hr']; done) | (exfalso; omega))⟩

def marks : ByteArray := ⟨#[33, 35, 36, 37, 38, 39, 42, 43, 45, 46, 94, 95, 96, 124, 126]⟩

def tokenOct (b : UInt8) : Bool := (decide (97 ≤ low b.toNat) && decide (low b.toNat ≤ 122)) || (decide (48 ≤ b.toNat) && decide (b.toNat ≤ 57)) || decide (0 ≤ Lib.indexByte marks.data.toList b)

def token (s : ByteArray) : Bool := s.data.toList.all tokenOct && !decide (s = ⟨#[]⟩) && decide (s.size ≤ 40)

theorem toNat_u8 (b : UInt8) : ((b.toNat : Int)).toNat.toUInt8 = b := by simp

theorem pairs_Token (s : ByteArray) (hs : s.size ≤ 1000000) : Pure Tryz.prog 179 [str s] (fun d => d = bln (token s)) := by
 refine pure_of_run follows an_zwtth Tryz.func179 rfl ok_zwtth.1 ok_zwtth.2 (by simp [Tryz.ntmps179]) ?_
 rw [run_start]
 simp only [ac_zwtth, go_sem, simprocAttr]
 refine loopS (fun k st => ∃ i : Nat, k = s.size - i ∧ i ≤ s.size ∧ (s.data.toList.drop i).all tokenOct = s.data.toList.all tokenOct ∧
  st = ⟨[(0, str s), (6, int s.size), (7, int i)], [], [], .no⟩) s.size _ (Weak.refl _ _) ⟨0, rfl, Nat.zero_le _, rfl, rfl⟩ ?_
 rintro k st ⟨i, rfl, hi, hr, rfl⟩
 by_cases hlt : i < s.size
 ·obtain ⟨b, hb, hd⟩ := byte_at hlt
  have hlt' : ((i : Int) < (s.size : Int)) = True := by simp; omega
  rw [hd, List.all_cons] at hr
  have bad : tokenOct b = false → token s = false := fun h => by
   rw [h, Bool.false_and] at hr
   simp only [token, ← hr, Bool.false_and]
  have hlow : IntKind.u8.wrap (BitVec.ofInt IntKind.u8.bits (b.toNat : Int) ||| BitVec.ofInt IntKind.u8.bits 32).toNat = low b.toNat := rfl
  have hw := i64_succ (show i < 1000000000 by omega)
  simp only [go_sem, simprocAttr, hlt', hb, hw, ↓hlow]
  have good : tokenOct b = true → ∀ st, Weak Tryz.prog st ⟨[(0, str s), (6, int s.size), (7, int (i + 1 : Nat))], [], [], .no⟩ → Round Tryz.prog (fun k st => ∃ i : Nat, k = s.size - i ∧ i ≤ s.size ∧ (s.data.toList.drop i).all tokenOct = s.data.toList.all tokenOct ∧
   st = ⟨[(0, str s), (6, int s.size), (7, int i)], [], [], .no⟩) (s.size - i) st := fun h st hw => by
   rw [h, Bool.true_and] at hr
   exact ⟨s.size - (i + 1), _, by omega, hw, i + 1, rfl, by omega, hr, rfl⟩
  repeat' (first | refine GifP.mk (fun _ => ?_) (fun _ => ?_) | refine Gif.mk (fun _ => ?_) (fun _ => ?_) | (refine (strings_IndexByte _ _).callW (enters_of Tryz.func215 rfl rfl) _ rfl rfl ?_; rintro _ rfl; rw [toNat_u8]; simp only [go_sem, simprocAttr, hw]))
  all_goals first
   | (refine good (by simp [tokenOct, marks, *]; try omega) _ ?_; exact lessA)
   | (simp only [retK, resD, retL, oneD, simprocAttr, Tryz.results179]
      exact ⟨_, rfl, rfl, congrArg bln (bad (by simp [tokenOct, marks, *]; try omega)).symm⟩)
 ·have hlt' : ((i : Int) < (s.size : Int)) = False := by simp; omega
  rw [byte_end hlt] at hr
  have hr' := hr.symm
  rw [List.all_nil] at hr'
  simp only [go_sem, simprocAttr, hlt']
  repeat' (first | refine GifP.mk (fun _ => ?_) (fun _ => ?_) | refine Gif.mk (fun _ => ?_) (fun _ => ?_))
  all_goals
   simp only [retK, resD, retL, oneD, simprocAttr, Tryz.results179]
   exact ⟨_, rfl, rfl, congrArg bln (by first | rfl | (rw [Bool.eq_iff_iff]; simp only [token, hr']; (first | (simp; done) | (simp; omega) | (simp [*]; done) | (simp [*]; omega))) | (simp_all [token, hr']; done) | (exfalso; omega))⟩

def trimL (c : Int) : Nat → ByteArray → ByteArray
 | 0, s => s
 | f + 1, s => match s[0]? with
   | some b => if (b.toNat : Int) = c then trimL c f (s.extract 1 s.size) else s
   | none => s

def trimR (c : Int) : Nat → ByteArray → ByteArray
 | 0, s => s
 | f + 1, s => match s[s.size - 1]? with
   | some b => if (b.toNat : Int) = c then trimR c f (s.extract 0 (s.size - 1)) else s
   | none => s

theorem byte_none {s : ByteArray} {i : Nat} (h : ¬ i < s.size) : s[i]? = none := by rw [bytes_get]; exact List.getElem?_eq_none (by rw [size_list]; omega)

theorem strings_trimLeftByte (s : ByteArray) (c : Int) : Pure Tryz.prog 236 [str s, u8 c] (fun d => d = str (trimL c s.size s)) := by
 refine pure_of_run follows an_zu0fc Tryz.func236 rfl ok_zu0fc.1 ok_zu0fc.2 (by simp [Tryz.ntmps236]) ?_
 rw [run_start]
 simp only [ac_zu0fc, go_sem, simprocAttr]
 refine loopS (fun k st => ∃ r : ByteArray, r.size ≤ k ∧ trimL c k r = trimL c s.size s ∧
  st = ⟨[(0, str r), (1, u8 c)], [], [], .no⟩) s.size _ (Weak.refl _ _) ⟨s, Nat.le_refl _, rfl, rfl⟩ ?_
 rintro k st ⟨r, hk, hr, rfl⟩
 by_cases hlt : 0 < r.size
 ·obtain ⟨b, hb⟩ := at_byte hlt
  obtain ⟨k, rfl⟩ : ∃ m, k = m + 1 := ⟨k - 1, by omega⟩
  have h1 : ((0 : Int) < (r.size : Int)) = True := eq_true (by omega)
  have h2 : (1 ≤ r.size) = True := by simp; omega
  have h3 : (r.extract 1 r.size).size = r.size - 1 := by simp [ByteArray.size_extract]
  simp only [trimL, hb] at hr
  simp only [go_sem, simprocAttr, h1, hb, h2]
  refine GifP.mk (fun h => ?_) (fun h => ?_)
  ·rw [if_pos h] at hr
   refine ⟨k, _, ?_, ?_, r.extract 1 r.size, ?_, hr, rfl⟩
   ·omega
   ·exact lessA
   ·omega
  ·rw [if_neg h] at hr
   simp only [retK, resD, retL, oneD, simprocAttr, Tryz.results236]
   exact ⟨_, rfl, rfl, congrArg (fun x => str x) hr⟩
 ·have h1 : ((0 : Int) < (r.size : Int)) = False := eq_false (by omega)
  have hn : trimL c k r = r := by
   cases k with
   | zero => rfl
   | succ k => simp only [trimL, byte_none hlt]
  rw [hn] at hr
  simp only [go_sem, simprocAttr, h1]
  simp only [retK, resD, retL, oneD, simprocAttr, Tryz.results236]
  exact ⟨_, rfl, rfl, congrArg (fun x => str x) hr⟩

theorem strings_trimRightByte (s : ByteArray) (c : Int) (hs : s.size ≤ 1000000) : Pure Tryz.prog 237 [str s, u8 c] (fun d => d = str (trimR c s.size s)) := by
 refine pure_of_run follows an_zdteh Tryz.func237 rfl ok_zdteh.1 ok_zdteh.2 (by simp [Tryz.ntmps237]) ?_
 rw [run_start]
 simp only [ac_zdteh, go_sem, simprocAttr]
 refine loopS (fun k st => ∃ r : ByteArray, r.size ≤ k ∧ r.size ≤ 1000000 ∧ trimR c k r = trimR c s.size s ∧
  st = ⟨[(0, str r), (1, u8 c)], [], [], .no⟩) s.size _ (Weak.refl _ _) ⟨s, Nat.le_refl _, hs, rfl, rfl⟩ ?_
 rintro k st ⟨r, hk, hrs, hr, rfl⟩
 by_cases hlt : 0 < r.size
 ·obtain ⟨b, hb⟩ := at_byte (show r.size - 1 < r.size by omega)
  obtain ⟨k, rfl⟩ : ∃ m, k = m + 1 := ⟨k - 1, by omega⟩
  have h1 : ((0 : Int) < (r.size : Int)) = True := eq_true (by omega)
  have h2 : (r.size - 1 ≤ r.size) = True := by simp
  have h3 : (r.extract 0 (r.size - 1)).size = r.size - 1 := by simp [ByteArray.size_extract]
  have hw : IntKind.i64.wrap ((r.size : Int) - 1) = ((r.size - 1 : Nat) : Int) := by rw [IntWalk.i64_in _ (by omega)]; omega
  simp only [trimR, hb] at hr
  simp only [go_sem, simprocAttr, h1, hw, hb, h2]
  refine GifP.mk (fun h => ?_) (fun h => ?_)
  ·rw [if_pos h] at hr
   refine ⟨k, _, ?_, ?_, r.extract 0 (r.size - 1), ?_, ?_, hr, rfl⟩
   ·omega
   ·exact lessA
   ·omega
   ·omega
  ·rw [if_neg h] at hr
   simp only [retK, resD, retL, oneD, simprocAttr, Tryz.results237]
   exact ⟨_, rfl, rfl, congrArg (fun x => str x) hr⟩
 ·have h1 : ((0 : Int) < (r.size : Int)) = False := eq_false (by omega)
  have hn : trimR c k r = r := by
   cases k with
   | zero => rfl
   | succ k => simp only [trimR, byte_none (show ¬ r.size - 1 < r.size by omega)]
  rw [hn] at hr
  simp only [go_sem, simprocAttr, h1]
  simp only [retK, resD, retL, oneD, simprocAttr, Tryz.results237]
  exact ⟨_, rfl, rfl, congrArg (fun x => str x) hr⟩

def trim (s : ByteArray) : ByteArray := trimL 32 (trimR 32 s.size s).size (trimR 32 s.size s)

theorem strings_Trim (s : ByteArray) (hs : s.size ≤ 1000000) : Pure Tryz.prog 216 [str s, str ⟨#[32]⟩] (fun d => d = str (trim s)) := by
 refine pure_of_run follows an_zmas7 Tryz.func216 rfl ok_zmas7.1 ok_zmas7.2 (by simp [Tryz.ntmps216]) ?_
 rw [run_start]
 have h1 : (ByteArray.mk #[32]).size = 1 := rfl
 have h2 : (ByteArray.mk #[32])[0]? = some 32 := rfl
 have h3 : ((1 : Nat) : Int) = 1 := rfl
 have h4 : (ByteArray.mk #[32] = ByteArray.mk #[]) = False := by simp
 have h5 : ((UInt8.toNat 32 : Nat) : Int) = 32 := rfl
 simp only [ac_zmas7, go_sem, simprocAttr, go_sem, h1, h2, h3, h4, h5]
 refine GifP.mk (fun he => ?_) (fun he => ?_)
 ·simp only [retK, resD, retL, oneD, simprocAttr, Tryz.results216]
  refine ⟨_, rfl, rfl, congrArg (fun x => str x) ?_⟩
  subst he; rfl
 ·refine (strings_trimRightByte s 32 hs).callX (enters_of Tryz.func237 rfl rfl) _ rfl rfl ?_
  rintro d rfl
  simp only [go_sem, simprocAttr, go_sem, h1, h2, h5]
  refine (strings_trimLeftByte _ 32).callX (enters_of Tryz.func236 rfl rfl) _ rfl rfl ?_
  rintro d rfl
  simp only [go_sem, simprocAttr, go_sem]
  simp only [retK, resD, retL, oneD, simprocAttr, Tryz.results216]
  exact ⟨_, rfl, rfl, rfl⟩


abbrev idr (bs : List (Nat × List D)) : List (Nat × Nat) := bs.map fun p => (p.1, p.1)
def capD (caps : List (Nat × Nat)) : List D := caps.map fun c => .ptr c.1 c.2

def dnd : List Nat → Bool
 | [] => true
 | a :: l => !l.contains a && dnd l

structure Cl (bs : List (Nat × List D)) (caps : List (Nat × Nat)) : Prop where
 ok : renOK (idr bs) = true
 see : seeBs (idr bs) bs (idr bs) = bs
 cap : D.sees (idr bs) (capD caps) = capD caps
 capf : seeCaps (idr bs) caps = some caps
 nd : dnd (bs.map (·.1)) = true

theorem Cl.of {bs : List (Nat × List D)} {caps : List (Nat × Nat)} (h1 : renOK (idr bs) = true) (h2 : seeBs (idr bs) bs (idr bs) = bs) (h3 : D.sees (idr bs) (capD caps) = capD caps) (h4 : seeCaps (idr bs) caps = some caps) (h5 : dnd (bs.map (·.1)) = true) : Cl bs caps := ⟨h1, h2, h3, h4, h5⟩

theorem Cl.args {bs : List (Nat × List D)} {caps : List (Nat × Nat)} (h : Cl bs caps) {d : D} (hd : D.see (idr bs) d = d) : D.sees (idr bs) (d :: capD caps) = d :: capD caps := by
 rw [D.sees, hd, h.cap]

theorem Cl.two {bs : List (Nat × List D)} {caps : List (Nat × Nat)} (h : Cl bs caps) {x : PD} {g : FuncId} : D.sees (idr bs) [.pd x, .fn g caps] = [.pd x, .fn g caps] := by
 simp only [D.sees, D.see, h.capf]

theorem lessL_of {α : Type} : ∀ {r l : List (Nat × α)}, (∀ p ∈ r, lk l p.1 = some p.2) → lessL r l
 | [], _, _ => trivial
 | _ :: _, _, h => ⟨h _ (List.mem_cons_self ..), lessL_of fun p hp => h p (List.mem_cons_of_mem _ hp)⟩

theorem lk_mem_nd {α : Type} : ∀ {l : List (Nat × α)}, dnd (l.map (·.1)) = true → ∀ p ∈ l, lk l p.1 = some p.2
 | [], _, _, h => by cases h
 | (m, d) :: l, hn, p, h => by
   simp only [List.map_cons, dnd, Bool.and_eq_true, Bool.not_eq_true'] at hn
   rcases List.mem_cons.1 h with rfl | h
   ·simp [lk]
   ·have hne : p.1 ≠ m := fun e => by
     have : (l.map (·.1)).contains m = true := by rw [List.contains_iff_mem]; exact List.mem_map.2 ⟨p, h, e⟩
     rw [hn.1] at this; cases this
    simp only [lk, if_neg hne]
    exact lk_mem_nd hn.2 p h

theorem lessL_refl {α : Type} {l : List (Nat × α)} (h : dnd (l.map (·.1)) = true) : lessL l l := lessL_of (lk_mem_nd h)

theorem Mem.toNfn {P : Program} {w0 : World} {Fz0 : Nat → Nat → Prop} {S : Nat → Prop} {N : Nat} {bs : List (Nat × List D)} {ms : List (Nat × MO)} {g : Gh} {w : World} (m : Mem (.fn P w0 Fz0 S N) bs ms g w) (N' : Nat) : Mem (.fn P w0 Fz0 S N') bs ms g w where
 os := m.os
 tape := m.tape
 output := m.output
 hsz := m.hsz
 old := m.old
 keep := m.keep
 newfz := m.newfz
 fzlt := m.fzlt
 bxs := m.bxs
 mps := m.mps
 bxok := m.bxok
 bxinj := m.bxinj
 tks := m.tks
 tkinj := m.tkinj
 bxtk := m.bxtk
 dfs := m.dfs
 dnd := m.dnd
 bxdf := m.bxdf
 bxdm := m.bxdm

theorem PureB.pure {P : Program} {f : FuncId} {args : List D} {R : D → Prop} (h : PureB P f args [] R) : Pure P f args R := by
 intro Fz w vs hlt hr
 exact h (gh0 Fz) w vs rfl rfl (fun N => (init_SR (P := P) (N := args.length) (Nat.le_refl _) hlt hr).mem.toNfn N) hr

theorem Pure.pureB {P : Program} {f : FuncId} {args : List D} {R : D → Prop} (h : Pure P f args R) (hc : D.closeds args = true) : PureB P f args [] R := by
 intro g0 w vs _ _ hm hr
 exact h g0.Fz w vs (hm 0).fzlt (Reps.close (g := g0) (g' := gh0 g0.Fz) (Ex.refl _ _) hc hr)

def lidx {α : Type} (p : α → Bool) : List α → Nat → Int
 | [], _ => -1
 | x :: l, i => if p x = true then (i : Int) else lidx p l (i + 1)

theorem lidx_any' {α : Type} (p : α → Bool) : ∀ (l : List α) (i : Nat), decide (0 ≤ lidx p l i) = l.any p
 | [], _ => by simp [lidx]
 | x :: l, i => by
   rw [lidx, List.any_cons]
   by_cases h : p x = true
   ·rw [if_pos h, h]; simp
   ·rw [if_neg h, lidx_any' p l (i + 1)]; simp at h; simp [h]

theorem lidx_any {α : Type} (p : α → Bool) (l : List α) : decide (0 ≤ lidx p l 0) = l.any p := lidx_any' p l 0

def every {α : Type} (p : α → Bool) (l : List α) (n : Int) : Bool := decide ((l.length : Int) ≤ n) && l.all p

def twiceFrom {α : Type} (q : α → α → Bool) (l : List α) : Nat → Nat → Bool
 | 0, _ => false
 | k + 1, i => (match l[i]? with
   | some x => (l.take i).any fun y => q x y
   | none => false) || twiceFrom q l k (i + 1)

def twice {α : Type} (q : α → α → Bool) (l : List α) : Bool := twiceFrom q l l.length 0

abbrev ASide.d (s : ASide) : D := .agg [int s.kind, str s.space, str s.name]
abbrev APair.d (p : APair) : D := .agg [str p.name, str p.val]
abbrev ANeed.d (n : ANeed) : D := .agg [int n.kind, str n.name, .pd (.slice (strs n.vals))]
abbrev AListener.d (l : AListener) : D := .agg [str l.name, int l.port, bln l.tls, str l.host, int l.cert.kind, str l.cert.space, str l.cert.name, int l.from_, .pd (.slice (rows ANeed.pd l.needs))]
abbrev AParent.d (p : AParent) : D := .agg [str p.space, str p.name, str p.section_, int p.port]
abbrev AMatch.d (m : AMatch) : D := .agg [int m.pkind, str m.pval, str m.method, .pd (.slice (rows APair.pd m.head)), .pd (.slice (rows APair.pd m.query))]
abbrev AFilter.d (f : AFilter) : D := .agg [int f.kind, str f.name, str f.val, str f.host, int f.port, str f.path, bln f.whole, int f.code]
abbrev ARule.d (r : ARule) : D := .agg [.pd (.slice (rows AMatch.pd r.matches_)), .pd (.slice (rows AFilter.pd r.filters)), .pd (.slice (rows ABackend.pd r.backends))]

abbrev ASide.ds (s : ASide) : List D := [int s.kind, str s.space, str s.name]
abbrev AListener.ds (l : AListener) : List D := [str l.name, int l.port, bln l.tls, str l.host, int l.cert.kind, str l.cert.space, str l.cert.name, int l.from_, .pd (.slice (rows ANeed.pd l.needs))]
abbrev AParent.ds (p : AParent) : List D := [str p.space, str p.name, str p.section_, int p.port]
def eqf {α : Type} (q : α → α → Bool) : List α → List α → Bool
 | [], [] => true
 | x :: l, y :: m => q x y && eqf q l m
 | _, _ => false

theorem eqf_len {α : Type} (q : α → α → Bool) : ∀ {l m : List α}, l.length ≠ m.length → eqf q l m = false
 | [], [], h => absurd rfl h
 | [], _ :: _, _ => rfl
 | _ :: _, [], _ => rfl
 | x :: l, y :: m, h => by
   rw [eqf, eqf_len q (by simpa using h), Bool.and_false]

theorem eq_int (x y : Int) : decide (x = y) = decide (x = y) := rfl
theorem eq_string (x y : ByteArray) : decide (x = y) = decide (x = y) := rfl
theorem eq_Pair (x y : APair) : (decide (x.name = y.name) && decide (x.val = y.val)) = decide (x = y) := by
 cases x; cases y; rw [Bool.eq_iff_iff]; simp
theorem eq_Side (x y : ASide) : (decide (x.kind = y.kind) && (decide (x.space = y.space) && decide (x.name = y.name))) = decide (x = y) := by
 cases x; cases y; rw [Bool.eq_iff_iff]; simp
theorem eq_Parent (x y : AParent) : (decide (x.space = y.space) && (decide (x.name = y.name) && (decide (x.section_ = y.section_) && decide (x.port = y.port)))) = decide (x = y) := by
 cases x; cases y; rw [Bool.eq_iff_iff]; simp
theorem eq_Ref (x y : ARef) : (decide (x.kind = y.kind) && (decide (x.space = y.space) && decide (x.name = y.name))) = decide (x = y) := by
 cases x; cases y; rw [Bool.eq_iff_iff]; simp
theorem eq_Backend (x y : ABackend) : (decide (x.ref.kind = y.ref.kind) && (decide (x.ref.space = y.ref.space) && (decide (x.ref.name = y.ref.name) && (decide (x.port = y.port) && decide (x.weight = y.weight))))) = decide (x = y) := by
 obtain ⟨⟨a, b, c⟩, d, e⟩ := x; obtain ⟨⟨a', b', c'⟩, d', e'⟩ := y; rw [Bool.eq_iff_iff]; simp [and_assoc]
theorem eq_Filter (x y : AFilter) : (decide (x.kind = y.kind) && (decide (x.name = y.name) && (decide (x.val = y.val) && (decide (x.host = y.host) && (decide (x.port = y.port) && (decide (x.path = y.path) && (x.whole == y.whole && decide (x.code = y.code)))))))) = decide (x = y) := by
 cases x; cases y; rw [Bool.eq_iff_iff]; simp


theorem IndexFunc_Side (p : ASide → Bool) (g : FuncId) (he : Enters Tryz.prog g) (caps : List (Nat × Nat)) (bs : List (Nat × List D)) (hc : Cl bs caps) (l : List ASide) (hl : l.length ≤ 1000000)
 (hp : ∀ x ∈ l, PureB Tryz.prog g (ASide.d x :: capD caps) bs (fun d => d = bln (p x))) :
 PureB Tryz.prog 194 [.pd (.slice (rows ASide.pd l)), .fn g caps] bs (fun d => d = int (lidx p l 0)) := by
 refine pureB_of_run follows an_zhz8f Tryz.func194 rfl ok_zhz8f.1 ok_zhz8f.2 (by simp [Tryz.ntmps194]) ?_
 rw [run_start]
 simp only [ac_zhz8f, go_sem, simprocAttr]
 refine loopS (fun k st => ∃ i : Nat, k = l.length - i ∧ i ≤ l.length ∧ lidx p (l.drop i) i = lidx p l 0 ∧
  st = ⟨[(0, .pd (.slice (rows ASide.pd l))), (1, .fn g caps), (7, int l.length), (8, int i)], bs, [], .no⟩) l.length _ (Weak.refl _ _) ⟨0, rfl, Nat.zero_le _, rfl, rfl⟩ ?_
 rintro k st ⟨i, rfl, hi, hr, rfl⟩
 by_cases hlt : i < l.length
 ·obtain ⟨x, hx⟩ := at_lt hlt
  have hlt' : ((i : Int) < (l.length : Int)) = True := eq_true (by omega)
  have hw := i64_succ (show i < 1000000000 by omega)
  rw [drop_at hx, lidx] at hr
  simp only [go_sem, simprocAttr, hlt', rows_get hx]
  refine (hp x (List.mem_of_getElem? hx)).callW he _ (idr bs) hc.ok (hc.args (by rfl)) hc.see ?_
  rintro d rfl
  simp only [go_sem, simprocAttr]
  refine Gif.mk (fun h => ?_) (fun h => ?_)
  ·rw [if_pos h] at hr
   simp only [retK, resD, retL, oneD, simprocAttr, Tryz.results194]
   exact ⟨_, rfl, rfl, congrArg int hr⟩
  ·rw [if_neg (by simp [h])] at hr
   simp only [go_sem, simprocAttr, hw]
   refine ⟨l.length - (i + 1), _, ?_, ?_, i + 1, rfl, ?_, hr, rfl⟩
   ·omega
   ·exact Weak.less (by simp [lessL, lk]) (lessL_refl hc.nd) (by simp [lessL, lk]) rfl
   ·omega
 ·have hlt' : ((i : Int) < (l.length : Int)) = False := eq_false (by omega)
  rw [List.drop_eq_nil_of_le (by omega), lidx] at hr
  simp only [go_sem, simprocAttr, hlt']
  simp only [retK, resD, retL, oneD, simprocAttr, Tryz.results194]
  exact ⟨_, rfl, rfl, congrArg int hr⟩

theorem IndexFunc_int (p : Int → Bool) (g : FuncId) (he : Enters Tryz.prog g) (caps : List (Nat × Nat)) (bs : List (Nat × List D)) (hc : Cl bs caps) (l : List Int) (hl : l.length ≤ 1000000)
 (hp : ∀ x ∈ l, PureB Tryz.prog g (int x :: capD caps) bs (fun d => d = bln (p x))) :
 PureB Tryz.prog 167 [.pd (.slice (rows cInt l)), .fn g caps] bs (fun d => d = int (lidx p l 0)) := by
 refine pureB_of_run follows an_zrckh Tryz.func167 rfl ok_zrckh.1 ok_zrckh.2 (by simp [Tryz.ntmps167]) ?_
 rw [run_start]
 simp only [ac_zrckh, go_sem, simprocAttr]
 refine loopS (fun k st => ∃ i : Nat, k = l.length - i ∧ i ≤ l.length ∧ lidx p (l.drop i) i = lidx p l 0 ∧
  st = ⟨[(0, .pd (.slice (rows cInt l))), (1, .fn g caps), (7, int l.length), (8, int i)], bs, [], .no⟩) l.length _ (Weak.refl _ _) ⟨0, rfl, Nat.zero_le _, rfl, rfl⟩ ?_
 rintro k st ⟨i, rfl, hi, hr, rfl⟩
 by_cases hlt : i < l.length
 ·obtain ⟨x, hx⟩ := at_lt hlt
  have hlt' : ((i : Int) < (l.length : Int)) = True := eq_true (by omega)
  have hw := i64_succ (show i < 1000000000 by omega)
  rw [drop_at hx, lidx] at hr
  simp only [go_sem, simprocAttr, hlt', rows_get hx]
  refine (hp x (List.mem_of_getElem? hx)).callW he _ (idr bs) hc.ok (hc.args (by rfl)) hc.see ?_
  rintro d rfl
  simp only [go_sem, simprocAttr]
  refine Gif.mk (fun h => ?_) (fun h => ?_)
  ·rw [if_pos h] at hr
   simp only [retK, resD, retL, oneD, simprocAttr, Tryz.results167]
   exact ⟨_, rfl, rfl, congrArg int hr⟩
  ·rw [if_neg (by simp [h])] at hr
   simp only [go_sem, simprocAttr, hw]
   refine ⟨l.length - (i + 1), _, ?_, ?_, i + 1, rfl, ?_, hr, rfl⟩
   ·omega
   ·exact Weak.less (by simp [lessL, lk]) (lessL_refl hc.nd) (by simp [lessL, lk]) rfl
   ·omega
 ·have hlt' : ((i : Int) < (l.length : Int)) = False := eq_false (by omega)
  rw [List.drop_eq_nil_of_le (by omega), lidx] at hr
  simp only [go_sem, simprocAttr, hlt']
  simp only [retK, resD, retL, oneD, simprocAttr, Tryz.results167]
  exact ⟨_, rfl, rfl, congrArg int hr⟩

theorem IndexFunc_Listener (p : AListener → Bool) (g : FuncId) (he : Enters Tryz.prog g) (caps : List (Nat × Nat)) (bs : List (Nat × List D)) (hc : Cl bs caps) (l : List AListener) (hl : l.length ≤ 1000000)
 (hp : ∀ x ∈ l, PureB Tryz.prog g (AListener.d x :: capD caps) bs (fun d => d = bln (p x))) :
 PureB Tryz.prog 168 [.pd (.slice (rows AListener.pd l)), .fn g caps] bs (fun d => d = int (lidx p l 0)) := by
 refine pureB_of_run follows an_z3tfr Tryz.func168 rfl ok_z3tfr.1 ok_z3tfr.2 (by simp [Tryz.ntmps168]) ?_
 rw [run_start]
 simp only [ac_z3tfr, go_sem, simprocAttr]
 refine loopS (fun k st => ∃ i : Nat, k = l.length - i ∧ i ≤ l.length ∧ lidx p (l.drop i) i = lidx p l 0 ∧
  st = ⟨[(0, .pd (.slice (rows AListener.pd l))), (1, .fn g caps), (7, int l.length), (8, int i)], bs, [], .no⟩) l.length _ (Weak.refl _ _) ⟨0, rfl, Nat.zero_le _, rfl, rfl⟩ ?_
 rintro k st ⟨i, rfl, hi, hr, rfl⟩
 by_cases hlt : i < l.length
 ·obtain ⟨x, hx⟩ := at_lt hlt
  have hlt' : ((i : Int) < (l.length : Int)) = True := eq_true (by omega)
  have hw := i64_succ (show i < 1000000000 by omega)
  rw [drop_at hx, lidx] at hr
  simp only [go_sem, simprocAttr, hlt', rows_get hx]
  refine (hp x (List.mem_of_getElem? hx)).callW he _ (idr bs) hc.ok (hc.args (by rfl)) hc.see ?_
  rintro d rfl
  simp only [go_sem, simprocAttr]
  refine Gif.mk (fun h => ?_) (fun h => ?_)
  ·rw [if_pos h] at hr
   simp only [retK, resD, retL, oneD, simprocAttr, Tryz.results168]
   exact ⟨_, rfl, rfl, congrArg int hr⟩
  ·rw [if_neg (by simp [h])] at hr
   simp only [go_sem, simprocAttr, hw]
   refine ⟨l.length - (i + 1), _, ?_, ?_, i + 1, rfl, ?_, hr, rfl⟩
   ·omega
   ·exact Weak.less (by simp [lessL, lk]) (lessL_refl hc.nd) (by simp [lessL, lk]) rfl
   ·omega
 ·have hlt' : ((i : Int) < (l.length : Int)) = False := eq_false (by omega)
  rw [List.drop_eq_nil_of_le (by omega), lidx] at hr
  simp only [go_sem, simprocAttr, hlt']
  simp only [retK, resD, retL, oneD, simprocAttr, Tryz.results168]
  exact ⟨_, rfl, rfl, congrArg int hr⟩

theorem IndexFunc_Need (p : ANeed → Bool) (g : FuncId) (he : Enters Tryz.prog g) (caps : List (Nat × Nat)) (bs : List (Nat × List D)) (hc : Cl bs caps) (l : List ANeed) (hl : l.length ≤ 1000000)
 (hp : ∀ x ∈ l, PureB Tryz.prog g (ANeed.d x :: capD caps) bs (fun d => d = bln (p x))) :
 PureB Tryz.prog 211 [.pd (.slice (rows ANeed.pd l)), .fn g caps] bs (fun d => d = int (lidx p l 0)) := by
 refine pureB_of_run follows an_zijlh Tryz.func211 rfl ok_zijlh.1 ok_zijlh.2 (by simp [Tryz.ntmps211]) ?_
 rw [run_start]
 simp only [ac_zijlh, go_sem, simprocAttr]
 refine loopS (fun k st => ∃ i : Nat, k = l.length - i ∧ i ≤ l.length ∧ lidx p (l.drop i) i = lidx p l 0 ∧
  st = ⟨[(0, .pd (.slice (rows ANeed.pd l))), (1, .fn g caps), (7, int l.length), (8, int i)], bs, [], .no⟩) l.length _ (Weak.refl _ _) ⟨0, rfl, Nat.zero_le _, rfl, rfl⟩ ?_
 rintro k st ⟨i, rfl, hi, hr, rfl⟩
 by_cases hlt : i < l.length
 ·obtain ⟨x, hx⟩ := at_lt hlt
  have hlt' : ((i : Int) < (l.length : Int)) = True := eq_true (by omega)
  have hw := i64_succ (show i < 1000000000 by omega)
  rw [drop_at hx, lidx] at hr
  simp only [go_sem, simprocAttr, hlt', rows_get hx]
  refine (hp x (List.mem_of_getElem? hx)).callW he _ (idr bs) hc.ok (hc.args (by rfl)) hc.see ?_
  rintro d rfl
  simp only [go_sem, simprocAttr]
  refine Gif.mk (fun h => ?_) (fun h => ?_)
  ·rw [if_pos h] at hr
   simp only [retK, resD, retL, oneD, simprocAttr, Tryz.results211]
   exact ⟨_, rfl, rfl, congrArg int hr⟩
  ·rw [if_neg (by simp [h])] at hr
   simp only [go_sem, simprocAttr, hw]
   refine ⟨l.length - (i + 1), _, ?_, ?_, i + 1, rfl, ?_, hr, rfl⟩
   ·omega
   ·exact Weak.less (by simp [lessL, lk]) (lessL_refl hc.nd) (by simp [lessL, lk]) rfl
   ·omega
 ·have hlt' : ((i : Int) < (l.length : Int)) = False := eq_false (by omega)
  rw [List.drop_eq_nil_of_le (by omega), lidx] at hr
  simp only [go_sem, simprocAttr, hlt']
  simp only [retK, resD, retL, oneD, simprocAttr, Tryz.results211]
  exact ⟨_, rfl, rfl, congrArg int hr⟩

theorem IndexFunc_Parent (p : AParent → Bool) (g : FuncId) (he : Enters Tryz.prog g) (caps : List (Nat × Nat)) (bs : List (Nat × List D)) (hc : Cl bs caps) (l : List AParent) (hl : l.length ≤ 1000000)
 (hp : ∀ x ∈ l, PureB Tryz.prog g (AParent.d x :: capD caps) bs (fun d => d = bln (p x))) :
 PureB Tryz.prog 172 [.pd (.slice (rows AParent.pd l)), .fn g caps] bs (fun d => d = int (lidx p l 0)) := by
 refine pureB_of_run follows an_zwjxg Tryz.func172 rfl ok_zwjxg.1 ok_zwjxg.2 (by simp [Tryz.ntmps172]) ?_
 rw [run_start]
 simp only [ac_zwjxg, go_sem, simprocAttr]
 refine loopS (fun k st => ∃ i : Nat, k = l.length - i ∧ i ≤ l.length ∧ lidx p (l.drop i) i = lidx p l 0 ∧
  st = ⟨[(0, .pd (.slice (rows AParent.pd l))), (1, .fn g caps), (7, int l.length), (8, int i)], bs, [], .no⟩) l.length _ (Weak.refl _ _) ⟨0, rfl, Nat.zero_le _, rfl, rfl⟩ ?_
 rintro k st ⟨i, rfl, hi, hr, rfl⟩
 by_cases hlt : i < l.length
 ·obtain ⟨x, hx⟩ := at_lt hlt
  have hlt' : ((i : Int) < (l.length : Int)) = True := eq_true (by omega)
  have hw := i64_succ (show i < 1000000000 by omega)
  rw [drop_at hx, lidx] at hr
  simp only [go_sem, simprocAttr, hlt', rows_get hx]
  refine (hp x (List.mem_of_getElem? hx)).callW he _ (idr bs) hc.ok (hc.args (by rfl)) hc.see ?_
  rintro d rfl
  simp only [go_sem, simprocAttr]
  refine Gif.mk (fun h => ?_) (fun h => ?_)
  ·rw [if_pos h] at hr
   simp only [retK, resD, retL, oneD, simprocAttr, Tryz.results172]
   exact ⟨_, rfl, rfl, congrArg int hr⟩
  ·rw [if_neg (by simp [h])] at hr
   simp only [go_sem, simprocAttr, hw]
   refine ⟨l.length - (i + 1), _, ?_, ?_, i + 1, rfl, ?_, hr, rfl⟩
   ·omega
   ·exact Weak.less (by simp [lessL, lk]) (lessL_refl hc.nd) (by simp [lessL, lk]) rfl
   ·omega
 ·have hlt' : ((i : Int) < (l.length : Int)) = False := eq_false (by omega)
  rw [List.drop_eq_nil_of_le (by omega), lidx] at hr
  simp only [go_sem, simprocAttr, hlt']
  simp only [retK, resD, retL, oneD, simprocAttr, Tryz.results172]
  exact ⟨_, rfl, rfl, congrArg int hr⟩

theorem IndexFunc_string (p : ByteArray → Bool) (g : FuncId) (he : Enters Tryz.prog g) (caps : List (Nat × Nat)) (bs : List (Nat × List D)) (hc : Cl bs caps) (l : List ByteArray) (hl : l.length ≤ 1000000)
 (hp : ∀ x ∈ l, PureB Tryz.prog g (str x :: capD caps) bs (fun d => d = bln (p x))) :
 PureB Tryz.prog 173 [.pd (.slice (rows cStr l)), .fn g caps] bs (fun d => d = int (lidx p l 0)) := by
 refine pureB_of_run follows an_zski5 Tryz.func173 rfl ok_zski5.1 ok_zski5.2 (by simp [Tryz.ntmps173]) ?_
 rw [run_start]
 simp only [ac_zski5, go_sem, simprocAttr]
 refine loopS (fun k st => ∃ i : Nat, k = l.length - i ∧ i ≤ l.length ∧ lidx p (l.drop i) i = lidx p l 0 ∧
  st = ⟨[(0, .pd (.slice (rows cStr l))), (1, .fn g caps), (7, int l.length), (8, int i)], bs, [], .no⟩) l.length _ (Weak.refl _ _) ⟨0, rfl, Nat.zero_le _, rfl, rfl⟩ ?_
 rintro k st ⟨i, rfl, hi, hr, rfl⟩
 by_cases hlt : i < l.length
 ·obtain ⟨x, hx⟩ := at_lt hlt
  have hlt' : ((i : Int) < (l.length : Int)) = True := eq_true (by omega)
  have hw := i64_succ (show i < 1000000000 by omega)
  rw [drop_at hx, lidx] at hr
  simp only [go_sem, simprocAttr, hlt', rows_get hx]
  refine (hp x (List.mem_of_getElem? hx)).callW he _ (idr bs) hc.ok (hc.args (by rfl)) hc.see ?_
  rintro d rfl
  simp only [go_sem, simprocAttr]
  refine Gif.mk (fun h => ?_) (fun h => ?_)
  ·rw [if_pos h] at hr
   simp only [retK, resD, retL, oneD, simprocAttr, Tryz.results173]
   exact ⟨_, rfl, rfl, congrArg int hr⟩
  ·rw [if_neg (by simp [h])] at hr
   simp only [go_sem, simprocAttr, hw]
   refine ⟨l.length - (i + 1), _, ?_, ?_, i + 1, rfl, ?_, hr, rfl⟩
   ·omega
   ·exact Weak.less (by simp [lessL, lk]) (lessL_refl hc.nd) (by simp [lessL, lk]) rfl
   ·omega
 ·have hlt' : ((i : Int) < (l.length : Int)) = False := eq_false (by omega)
  rw [List.drop_eq_nil_of_le (by omega), lidx] at hr
  simp only [go_sem, simprocAttr, hlt']
  simp only [retK, resD, retL, oneD, simprocAttr, Tryz.results173]
  exact ⟨_, rfl, rfl, congrArg int hr⟩


theorem IndexFunc_Rule (p : ARule → Bool) (g : FuncId) (he : Enters Tryz.prog g) (caps : List (Nat × Nat)) (bs : List (Nat × List D)) (hc : Cl bs caps) (l : List ARule) (hl : l.length ≤ 1000000)
 (hp : ∀ x ∈ l, PureB Tryz.prog g (ARule.d x :: capD caps) bs (fun d => d = bln (p x))) :
 PureB Tryz.prog 175 [.pd (.slice (rows ARule.pd l)), .fn g caps] bs (fun d => d = int (lidx p l 0)) := by
 refine pureB_of_run follows an_zwh23 Tryz.func175 rfl ok_zwh23.1 ok_zwh23.2 (by simp [Tryz.ntmps175]) ?_
 rw [run_start]
 simp only [ac_zwh23, go_sem, simprocAttr]
 refine loopS (fun k st => ∃ i : Nat, k = l.length - i ∧ i ≤ l.length ∧ lidx p (l.drop i) i = lidx p l 0 ∧
  st = ⟨[(0, .pd (.slice (rows ARule.pd l))), (1, .fn g caps), (7, int l.length), (8, int i)], bs, [], .no⟩) l.length _ (Weak.refl _ _) ⟨0, rfl, Nat.zero_le _, rfl, rfl⟩ ?_
 rintro k st ⟨i, rfl, hi, hr, rfl⟩
 by_cases hlt : i < l.length
 ·obtain ⟨x, hx⟩ := at_lt hlt
  have hlt' : ((i : Int) < (l.length : Int)) = True := eq_true (by omega)
  have hw := i64_succ (show i < 1000000000 by omega)
  rw [drop_at hx, lidx] at hr
  simp only [go_sem, simprocAttr, hlt', rows_get hx]
  refine (hp x (List.mem_of_getElem? hx)).callW he _ (idr bs) hc.ok (hc.args (by rfl)) hc.see ?_
  rintro d rfl
  simp only [go_sem, simprocAttr]
  refine Gif.mk (fun h => ?_) (fun h => ?_)
  ·rw [if_pos h] at hr
   simp only [retK, resD, retL, oneD, simprocAttr, Tryz.results175]
   exact ⟨_, rfl, rfl, congrArg int hr⟩
  ·rw [if_neg (by simp [h])] at hr
   simp only [go_sem, simprocAttr, hw]
   refine ⟨l.length - (i + 1), _, ?_, ?_, i + 1, rfl, ?_, hr, rfl⟩
   ·omega
   ·exact Weak.less (by simp [lessL, lk]) (lessL_refl hc.nd) (by simp [lessL, lk]) rfl
   ·omega
 ·have hlt' : ((i : Int) < (l.length : Int)) = False := eq_false (by omega)
  rw [List.drop_eq_nil_of_le (by omega), lidx] at hr
  simp only [go_sem, simprocAttr, hlt']
  simp only [retK, resD, retL, oneD, simprocAttr, Tryz.results175]
  exact ⟨_, rfl, rfl, congrArg int hr⟩

theorem IndexFunc_Match (p : AMatch → Bool) (g : FuncId) (he : Enters Tryz.prog g) (caps : List (Nat × Nat)) (bs : List (Nat × List D)) (hc : Cl bs caps) (l : List AMatch) (hl : l.length ≤ 1000000)
 (hp : ∀ x ∈ l, PureB Tryz.prog g (AMatch.d x :: capD caps) bs (fun d => d = bln (p x))) :
 PureB Tryz.prog 214 [.pd (.slice (rows AMatch.pd l)), .fn g caps] bs (fun d => d = int (lidx p l 0)) := by
 refine pureB_of_run follows an_zsjmp Tryz.func214 rfl ok_zsjmp.1 ok_zsjmp.2 (by simp [Tryz.ntmps214]) ?_
 rw [run_start]
 simp only [ac_zsjmp, go_sem, simprocAttr]
 refine loopS (fun k st => ∃ i : Nat, k = l.length - i ∧ i ≤ l.length ∧ lidx p (l.drop i) i = lidx p l 0 ∧
  st = ⟨[(0, .pd (.slice (rows AMatch.pd l))), (1, .fn g caps), (7, int l.length), (8, int i)], bs, [], .no⟩) l.length _ (Weak.refl _ _) ⟨0, rfl, Nat.zero_le _, rfl, rfl⟩ ?_
 rintro k st ⟨i, rfl, hi, hr, rfl⟩
 by_cases hlt : i < l.length
 ·obtain ⟨x, hx⟩ := at_lt hlt
  have hlt' : ((i : Int) < (l.length : Int)) = True := eq_true (by omega)
  have hw := i64_succ (show i < 1000000000 by omega)
  rw [drop_at hx, lidx] at hr
  simp only [go_sem, simprocAttr, hlt', rows_get hx]
  refine (hp x (List.mem_of_getElem? hx)).callW he _ (idr bs) hc.ok (hc.args (by rfl)) hc.see ?_
  rintro d rfl
  simp only [go_sem, simprocAttr]
  refine Gif.mk (fun h => ?_) (fun h => ?_)
  ·rw [if_pos h] at hr
   simp only [retK, resD, retL, oneD, simprocAttr, Tryz.results214]
   exact ⟨_, rfl, rfl, congrArg int hr⟩
  ·rw [if_neg (by simp [h])] at hr
   simp only [go_sem, simprocAttr, hw]
   refine ⟨l.length - (i + 1), _, ?_, ?_, i + 1, rfl, ?_, hr, rfl⟩
   ·omega
   ·exact Weak.less (by simp [lessL, lk]) (lessL_refl hc.nd) (by simp [lessL, lk]) rfl
   ·omega
 ·have hlt' : ((i : Int) < (l.length : Int)) = False := eq_false (by omega)
  rw [List.drop_eq_nil_of_le (by omega), lidx] at hr
  simp only [go_sem, simprocAttr, hlt']
  simp only [retK, resD, retL, oneD, simprocAttr, Tryz.results214]
  exact ⟨_, rfl, rfl, congrArg int hr⟩

theorem IndexFunc_Pair (p : APair → Bool) (g : FuncId) (he : Enters Tryz.prog g) (caps : List (Nat × Nat)) (bs : List (Nat × List D)) (hc : Cl bs caps) (l : List APair) (hl : l.length ≤ 1000000)
 (hp : ∀ x ∈ l, PureB Tryz.prog g (APair.d x :: capD caps) bs (fun d => d = bln (p x))) :
 PureB Tryz.prog 220 [.pd (.slice (rows APair.pd l)), .fn g caps] bs (fun d => d = int (lidx p l 0)) := by
 refine pureB_of_run follows an_zdecl Tryz.func220 rfl ok_zdecl.1 ok_zdecl.2 (by simp [Tryz.ntmps220]) ?_
 rw [run_start]
 simp only [ac_zdecl, go_sem, simprocAttr]
 refine loopS (fun k st => ∃ i : Nat, k = l.length - i ∧ i ≤ l.length ∧ lidx p (l.drop i) i = lidx p l 0 ∧
  st = ⟨[(0, .pd (.slice (rows APair.pd l))), (1, .fn g caps), (7, int l.length), (8, int i)], bs, [], .no⟩) l.length _ (Weak.refl _ _) ⟨0, rfl, Nat.zero_le _, rfl, rfl⟩ ?_
 rintro k st ⟨i, rfl, hi, hr, rfl⟩
 by_cases hlt : i < l.length
 ·obtain ⟨x, hx⟩ := at_lt hlt
  have hlt' : ((i : Int) < (l.length : Int)) = True := eq_true (by omega)
  have hw := i64_succ (show i < 1000000000 by omega)
  rw [drop_at hx, lidx] at hr
  simp only [go_sem, simprocAttr, hlt', rows_get hx]
  refine (hp x (List.mem_of_getElem? hx)).callW he _ (idr bs) hc.ok (hc.args (by rfl)) hc.see ?_
  rintro d rfl
  simp only [go_sem, simprocAttr]
  refine Gif.mk (fun h => ?_) (fun h => ?_)
  ·rw [if_pos h] at hr
   simp only [retK, resD, retL, oneD, simprocAttr, Tryz.results220]
   exact ⟨_, rfl, rfl, congrArg int hr⟩
  ·rw [if_neg (by simp [h])] at hr
   simp only [go_sem, simprocAttr, hw]
   refine ⟨l.length - (i + 1), _, ?_, ?_, i + 1, rfl, ?_, hr, rfl⟩
   ·omega
   ·exact Weak.less (by simp [lessL, lk]) (lessL_refl hc.nd) (by simp [lessL, lk]) rfl
   ·omega
 ·have hlt' : ((i : Int) < (l.length : Int)) = False := eq_false (by omega)
  rw [List.drop_eq_nil_of_le (by omega), lidx] at hr
  simp only [go_sem, simprocAttr, hlt']
  simp only [retK, resD, retL, oneD, simprocAttr, Tryz.results220]
  exact ⟨_, rfl, rfl, congrArg int hr⟩

theorem IndexFunc_Filter (p : AFilter → Bool) (g : FuncId) (he : Enters Tryz.prog g) (caps : List (Nat × Nat)) (bs : List (Nat × List D)) (hc : Cl bs caps) (l : List AFilter) (hl : l.length ≤ 1000000)
 (hp : ∀ x ∈ l, PureB Tryz.prog g (AFilter.d x :: capD caps) bs (fun d => d = bln (p x))) :
 PureB Tryz.prog 224 [.pd (.slice (rows AFilter.pd l)), .fn g caps] bs (fun d => d = int (lidx p l 0)) := by
 refine pureB_of_run follows an_zwgkv Tryz.func224 rfl ok_zwgkv.1 ok_zwgkv.2 (by simp [Tryz.ntmps224]) ?_
 rw [run_start]
 simp only [ac_zwgkv, go_sem, simprocAttr]
 refine loopS (fun k st => ∃ i : Nat, k = l.length - i ∧ i ≤ l.length ∧ lidx p (l.drop i) i = lidx p l 0 ∧
  st = ⟨[(0, .pd (.slice (rows AFilter.pd l))), (1, .fn g caps), (7, int l.length), (8, int i)], bs, [], .no⟩) l.length _ (Weak.refl _ _) ⟨0, rfl, Nat.zero_le _, rfl, rfl⟩ ?_
 rintro k st ⟨i, rfl, hi, hr, rfl⟩
 by_cases hlt : i < l.length
 ·obtain ⟨x, hx⟩ := at_lt hlt
  have hlt' : ((i : Int) < (l.length : Int)) = True := eq_true (by omega)
  have hw := i64_succ (show i < 1000000000 by omega)
  rw [drop_at hx, lidx] at hr
  simp only [go_sem, simprocAttr, hlt', rows_get hx]
  refine (hp x (List.mem_of_getElem? hx)).callW he _ (idr bs) hc.ok (hc.args (by rfl)) hc.see ?_
  rintro d rfl
  simp only [go_sem, simprocAttr]
  refine Gif.mk (fun h => ?_) (fun h => ?_)
  ·rw [if_pos h] at hr
   simp only [retK, resD, retL, oneD, simprocAttr, Tryz.results224]
   exact ⟨_, rfl, rfl, congrArg int hr⟩
  ·rw [if_neg (by simp [h])] at hr
   simp only [go_sem, simprocAttr, hw]
   refine ⟨l.length - (i + 1), _, ?_, ?_, i + 1, rfl, ?_, hr, rfl⟩
   ·omega
   ·exact Weak.less (by simp [lessL, lk]) (lessL_refl hc.nd) (by simp [lessL, lk]) rfl
   ·omega
 ·have hlt' : ((i : Int) < (l.length : Int)) = False := eq_false (by omega)
  rw [List.drop_eq_nil_of_le (by omega), lidx] at hr
  simp only [go_sem, simprocAttr, hlt']
  simp only [retK, resD, retL, oneD, simprocAttr, Tryz.results224]
  exact ⟨_, rfl, rfl, congrArg int hr⟩

theorem IndexFunc_Backend (p : ABackend → Bool) (g : FuncId) (he : Enters Tryz.prog g) (caps : List (Nat × Nat)) (bs : List (Nat × List D)) (hc : Cl bs caps) (l : List ABackend) (hl : l.length ≤ 1000000)
 (hp : ∀ x ∈ l, PureB Tryz.prog g (ABackend.d x :: capD caps) bs (fun d => d = bln (p x))) :
 PureB Tryz.prog 225 [.pd (.slice (rows ABackend.pd l)), .fn g caps] bs (fun d => d = int (lidx p l 0)) := by
 refine pureB_of_run follows an_zbcsd Tryz.func225 rfl ok_zbcsd.1 ok_zbcsd.2 (by simp [Tryz.ntmps225]) ?_
 rw [run_start]
 simp only [ac_zbcsd, go_sem, simprocAttr]
 refine loopS (fun k st => ∃ i : Nat, k = l.length - i ∧ i ≤ l.length ∧ lidx p (l.drop i) i = lidx p l 0 ∧
  st = ⟨[(0, .pd (.slice (rows ABackend.pd l))), (1, .fn g caps), (7, int l.length), (8, int i)], bs, [], .no⟩) l.length _ (Weak.refl _ _) ⟨0, rfl, Nat.zero_le _, rfl, rfl⟩ ?_
 rintro k st ⟨i, rfl, hi, hr, rfl⟩
 by_cases hlt : i < l.length
 ·obtain ⟨x, hx⟩ := at_lt hlt
  have hlt' : ((i : Int) < (l.length : Int)) = True := eq_true (by omega)
  have hw := i64_succ (show i < 1000000000 by omega)
  rw [drop_at hx, lidx] at hr
  simp only [go_sem, simprocAttr, hlt', rows_get hx]
  refine (hp x (List.mem_of_getElem? hx)).callW he _ (idr bs) hc.ok (hc.args (by rfl)) hc.see ?_
  rintro d rfl
  simp only [go_sem, simprocAttr]
  refine Gif.mk (fun h => ?_) (fun h => ?_)
  ·rw [if_pos h] at hr
   simp only [retK, resD, retL, oneD, simprocAttr, Tryz.results225]
   exact ⟨_, rfl, rfl, congrArg int hr⟩
  ·rw [if_neg (by simp [h])] at hr
   simp only [go_sem, simprocAttr, hw]
   refine ⟨l.length - (i + 1), _, ?_, ?_, i + 1, rfl, ?_, hr, rfl⟩
   ·omega
   ·exact Weak.less (by simp [lessL, lk]) (lessL_refl hc.nd) (by simp [lessL, lk]) rfl
   ·omega
 ·have hlt' : ((i : Int) < (l.length : Int)) = False := eq_false (by omega)
  rw [List.drop_eq_nil_of_le (by omega), lidx] at hr
  simp only [go_sem, simprocAttr, hlt']
  simp only [retK, resD, retL, oneD, simprocAttr, Tryz.results225]
  exact ⟨_, rfl, rfl, congrArg int hr⟩

end Go.Proofs.YtbjaopoipkphnaaGreatDoor


