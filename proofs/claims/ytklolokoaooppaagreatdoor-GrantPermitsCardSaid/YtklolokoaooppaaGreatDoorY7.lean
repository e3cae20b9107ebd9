/- Texts of the prover's, joined: DB J2 JB J3 J4 J8 J9. -/
import Derived.Test.YtklolokoaooppaaGreatDoorY6
import Derived.Test.YtklolokoaooppaaGreatDoorProg
import Derived.KernelRfl

namespace Go.Proofs.YtklolokoaooppaaGreatDoor
open Go

def ac_zboc8 : AC := (sr [oo 1 (.box 32 (tp 0)),oo 2 (.mv (cq false))] [1] (.seq (sr [fi 6 0 1,oo 7 (.load (some 3) (tp 6)),oo 8 (.call 54 [tp 7]),oo 9 (.un .not (tp 8))] [1,9] (.cond (tp 9) (sr [oo 2 (.mv (cq false))] [2] .ret) .skip)) (sr [fi 10 0 1,oo 11 (.load (some 3) (tp 10)),oo 12 (.build [.pd (.raw (.int .i64 0)),.pd (.raw (.string ⟨#[]⟩)),.pd (.raw (.string ⟨#[]⟩)),.pd (.raw (.bool false)),.nils,.nils,.pd (.raw (.string ⟨#[]⟩)),.nils,.nils,.nils,.nils,.nils,.nils] [(0,3,tp 11)]),oo 3 (.alloc 32 [.pd (.raw (.int .i64 0)),.pd (.raw (.string ⟨#[]⟩)),.pd (.raw (.string ⟨#[]⟩)),.pd (.raw (.bool false)),.nils,.nils,.pd (.raw (.string ⟨#[]⟩)),.nils,.nils,.nils,.nils,.nils,.nils]),.mk none none (.store 13 (tp 3) (tp 12))] [1,3] (sr [oo 4 (.mv (cq true))] [1,3,4] (.seq (sr [fi 13 0 1,fi 14 0 13,lq 15 14] [1,3,4,15] (.block 0 (.seq (sr [oo 17 (.bin .eql (tp 15) (ci 1)),mq 16 17] [1,3,4,15,16] (.cond (tp 16) .skip (.region [oo 18 (.bin .eql (tp 15) (ci 4)),mq 16 18] (some [1,3,4,15,16])))) (.cond (tp 16) (.region [fi 19 3 1,lq 20 19,fi 21 3 3,.mk none none (.store 1 (tp 21) (tp 20))] (some [1,3,4])) (sr [oo 23 (.bin .eql (tp 15) (ci 2)),mq 22 23] [1,3,4,15,22] (.cond (tp 22) (sr [fi 24 4 1,lq 25 24,fi 26 4 3,.mk none none (.store 1 (tp 26) (tp 25))] [1,3] (.region [fi 27 4 1,lq 28 27,oo 29 (.call 55 [tp 28]),mq 4 29] (some [1,3,4]))) (sr [oo 31 (.bin .eql (tp 15) (ci 3)),mq 30 31] [1,3,4,15,30] (.cond (tp 30) (sr [fi 32 5 1,lq 33 32,fi 34 5 3,.mk none none (.store 1 (tp 34) (tp 33))] [1,3] (sr [fi 35 5 1,lq 36 35,oo 37 (.len (tp 36) false),oo 38 (.bin .leq (ci 1) (tp 37)),mq 39 38,og 39 true 40 (.fieldA 5 (tp 1)),og 39 true 41 (.load none (tp 40)),og 39 true 42 (.len (tp 41) false),og 39 true 43 (.bin .leq (tp 42) (ci 8)),oo 44 (.pick (tp 39) (tp 43) (cq false)),mq 4 44] [1,3,4] (sr [oo 5 (.mv (ci 0))] [1,3,4,5] (.block 1 (.loop (.seq (sr [mq 45 5,fi 46 5 1,lq 47 46,oo 48 (.len (tp 47) false),oo 49 (.bin .lss (tp 45) (tp 48))] [1,3,4,5,49] (.cond (tp 49) .skip (.exit 1))) (.seq (.block 2 (.draw [mq 52 4,mq 53 52,og 53 true 54 (.fieldA 5 (tp 1)),og 53 true 55 (.load none (tp 54)),og 53 true 56 (.mv (tp 5)),og 53 true 57 (.idxA 1 (tp 55) (tp 56)),og 53 true 58 (.load none (tp 57)),og 53 true 59 (.call 56 [tp 58]),oo 60 (.pick (tp 53) (tp 59) (cq false)),mq 61 60,og 61 true 62 (.mv (tp 5)),og 61 true 63 (.bin .eql (tp 62) (ci 0)),og 61 true 64 (.mv (tp 63)),og 64 false 65 (.fieldA 5 (tp 1)),og 64 false 66 (.load none (tp 65)),og 64 false 67 (.mv (tp 5)),og 64 false 68 (.bin .sub (tp 67) (ci 1)),og 64 false 69 (.idxA 1 (tp 66) (tp 68)),og 64 false 70 (.load none (tp 69)),og 64 false 71 (.fieldA 5 (tp 1)),og 64 false 72 (.load none (tp 71)),og 64 false 73 (.mv (tp 5)),og 64 false 74 (.idxA 1 (tp 72) (tp 73)),og 64 false 75 (.load none (tp 74)),og 64 false 76 (.bin .lss (tp 70) (tp 75)),og 61 true 77 (.pick (tp 64) (cq true) (tp 76)),oo 78 (.pick (tp 61) (tp 77) (cq false)),mq 4 78] [0,1,3,7,3,31,63,127,255,511,1023,2047,4095,8191,16383,8191,40959,131071,262143,8191,532479,8191,3678207,7872511,16777215,33554431,67108863,134217727] (.take 0 (.take 1 (.take 2 (.take 3 (.take 4 (.take 5 (.take 6 (.alts (.cons 7 true (.take 8 (.take 9 (.take 10 (.take 11 (.take 12 (.take 13 (.take 14 (.take 15 (.take 16 (.take 17 (.take 18 (.take 19 (.take 20 (.take 21 (.take 22 (.take 23 (.take 24 (.take 25 (.take 26 (.take 27 .done)))))))))))))))))))) .nil))))))))) (some [1,3,4,5]))) (.region [mq 50 5,oo 51 (.bin .add (tp 50) (ci 1)),mq 5 51] (some [1,3,4,5]))))))))) (sr [oo 80 (.bin .eql (tp 15) (ci 5)),mq 79 80] [1,3,4,15,79] (.cond (tp 79) (sr [fi 81 6 1,lq 82 81,fi 83 6 3,.mk none none (.store 1 (tp 83) (tp 82))] [1,3] (sr [fi 84 7 1,lq 85 84,fi 86 7 3,.mk none none (.store 1 (tp 86) (tp 85))] [1,3] (.region [oo 87 (.load (some 13) (tp 1)),oo 88 (.call 57 [tp 87]),mq 4 88] (some [1,3,4])))) (sr [oo 90 (.bin .eql (tp 15) (ci 6)),mq 89 90] [1,3,4,15,89] (.cond (tp 89) (sr [fi 91 8 1,lq 92 91,fi 93 8 3,.mk none none (.store 1 (tp 93) (tp 92))] [1,3] (sr [fi 94 9 1,lq 95 94,fi 96 9 3,.mk none none (.store 1 (tp 96) (tp 95))] [1,3] (sr [fi 97 10 1,lq 98 97,fi 99 10 3,.mk none none (.store 1 (tp 99) (tp 98))] [1,3] (.region [oo 100 (.load (some 13) (tp 1)),oo 101 (.call 58 [tp 100]),mq 4 101] (some [1,3,4]))))) (sr [oo 103 (.bin .eql (tp 15) (ci 7)),mq 102 103] [1,3,4,102] (.cond (tp 102) (sr [fi 104 11 1,lq 105 104,fi 106 11 3,.mk none none (.store 1 (tp 106) (tp 105))] [1,3] (sr [fi 107 12 1,lq 108 107,fi 109 12 3,.mk none none (.store 1 (tp 109) (tp 108))] [1,3] (.region [oo 110 (.load (some 13) (tp 1)),oo 111 (.call 59 [tp 110]),mq 4 111] (some [1,3,4])))) .skip)))))))))))))) (sr [mq 112 4,mq 113 112,og 113 true 114 (.load (some 13) (tp 3)),og 113 true 115 (.load (some 13) (tp 1)),og 113 true 116 (.call 19 [tp 114,tp 115]),oo 117 (.pick (tp 113) (tp 116) (cq false)),mq 2 117] [2] .ret))))))
def an_zboc8 : Ann := ann [0,1,2,3,4,5,6,7,8,9,10,11,12,13,14,15,16,18,17,19,20,21,22,23,24,25,26,27,28,29,30,31,32] ac_zboc8
theorem ok_zboc8 : okd Tryz.prog an_zboc8 ac_zboc8 Tryz.f12 := ⟨by kernel_rfl, by kernel_rfl⟩

def ac_zwcd : AC := (sr [oo 2 (.box 32 (tp 0)),oo 3 (.box 32 (tp 1)),oo 4 (.mv (cq false))] [2,3] (.seq (sr [fi 13 0 2,oo 14 (.load (some 3) (tp 13)),fi 15 0 3,oo 16 (.load (some 3) (tp 15)),oo 17 (.eqs true [.int,.str,.str] (tp 14) (tp 16)),mq 18 17,og 18 false 19 (.fieldA 3 (tp 2)),og 18 false 20 (.load none (tp 19)),og 18 false 21 (.fieldA 3 (tp 3)),og 18 false 22 (.load none (tp 21)),og 18 false 23 (.binB true (tp 20) (tp 22)),oo 24 (.pick (tp 18) (cq true) (tp 23)),mq 25 24,og 25 false 26 (.fieldA 6 (tp 2)),og 25 false 27 (.load none (tp 26)),og 25 false 28 (.fieldA 6 (tp 3)),og 25 false 29 (.load none (tp 28)),og 25 false 30 (.bin .neq (tp 27) (tp 29)),oo 31 (.pick (tp 25) (cq true) (tp 30)),mq 32 31,og 32 false 33 (.fieldA 4 (tp 2)),og 32 false 34 (.load none (tp 33)),og 32 false 35 (.fieldA 4 (tp 3)),og 32 false 36 (.load none (tp 35)),og 32 false 37 (.call 65 [tp 34,tp 36]),og 32 false 38 (.un .not (tp 37)),oo 39 (.pick (tp 32) (cq true) (tp 38)),mq 40 39,og 40 false 41 (.fieldA 9 (tp 2)),og 40 false 42 (.load none (tp 41)),og 40 false 43 (.fieldA 9 (tp 3)),og 40 false 44 (.load none (tp 43)),og 40 false 45 (.call 66 [tp 42,tp 44]),og 40 false 46 (.un .not (tp 45)),oo 47 (.pick (tp 40) (cq true) (tp 46))] [2,3,47] (.cond (tp 47) (sr [oo 4 (.mv (cq false))] [4] .ret) .skip)) (.seq (sr [fi 48 5 2,lq 49 48,oo 50 (.len (tp 49) false),fi 51 5 3,lq 52 51,oo 53 (.len (tp 52) false),oo 54 (.bin .neq (tp 50) (tp 53)),mq 55 54,og 55 false 56 (.fieldA 7 (tp 2)),og 55 false 57 (.load none (tp 56)),og 55 false 58 (.len (tp 57) false),og 55 false 59 (.fieldA 7 (tp 3)),og 55 false 60 (.load none (tp 59)),og 55 false 61 (.len (tp 60) false),og 55 false 62 (.bin .neq (tp 58) (tp 61)),oo 63 (.pick (tp 55) (cq true) (tp 62)),mq 64 63,og 64 false 65 (.fieldA 8 (tp 2)),og 64 false 66 (.load none (tp 65)),og 64 false 67 (.len (tp 66) false),og 64 false 68 (.fieldA 8 (tp 3)),og 64 false 69 (.load none (tp 68)),og 64 false 70 (.len (tp 69) false),og 64 false 71 (.bin .neq (tp 67) (tp 70)),oo 72 (.pick (tp 64) (cq true) (tp 71)),mq 73 72,og 73 false 74 (.fieldA 10 (tp 2)),og 73 false 75 (.load none (tp 74)),og 73 false 76 (.len (tp 75) false),og 73 false 77 (.fieldA 10 (tp 3)),og 73 false 78 (.load none (tp 77)),og 73 false 79 (.len (tp 78) false),og 73 false 80 (.bin .neq (tp 76) (tp 79)),oo 81 (.pick (tp 73) (cq true) (tp 80)),mq 82 81,og 82 false 83 (.fieldA 11 (tp 2)),og 82 false 84 (.load none (tp 83)),og 82 false 85 (.len (tp 84) false),og 82 false 86 (.fieldA 11 (tp 3)),og 82 false 87 (.load none (tp 86)),og 82 false 88 (.len (tp 87) false),og 82 false 89 (.bin .neq (tp 85) (tp 88)),oo 90 (.pick (tp 82) (cq true) (tp 89)),mq 91 90,og 91 false 92 (.fieldA 12 (tp 2)),og 91 false 93 (.load none (tp 92)),og 91 false 94 (.len (tp 93) false),og 91 false 95 (.fieldA 12 (tp 3)),og 91 false 96 (.load none (tp 95)),og 91 false 97 (.len (tp 96) false),og 91 false 98 (.bin .neq (tp 94) (tp 97)),oo 99 (.pick (tp 91) (cq true) (tp 98))] [2,3,99] (.cond (tp 99) (sr [oo 4 (.mv (cq false))] [4] .ret) .skip)) (.seq (sr [oo 5 (.mv (ci 0))] [2,3,5] (.block 0 (.loop (.seq (sr [mq 100 5,fi 101 5 2,lq 102 101,oo 103 (.len (tp 102) false),oo 104 (.bin .lss (tp 100) (tp 103))] [2,3,5,104] (.cond (tp 104) .skip (.exit 0))) (.seq (.block 1 (.seq (.draw [fi 107 5 2,lq 108 107,mq 109 5,oo 110 (.idxA 1 (tp 108) (tp 109)),lq 111 110,fi 112 5 3,lq 113 112,mq 114 5,oo 115 (.idxA 1 (tp 113) (tp 114)),lq 116 115,oo 117 (.bin .neq (tp 111) (tp 116))] [0,1,0,7,15,0,32,0,224,480,1023] (.take 0 (.take 1 (.take 2 (.take 3 (.take 4 (.take 5 (.take 6 (.take 7 (.take 8 (.take 9 (.take 10 .done))))))))))) (some [2,3,5,117])) (.cond (tp 117) (sr [oo 4 (.mv (cq false))] [4] .ret) .skip))) (.region [mq 105 5,oo 106 (.bin .add (tp 105) (ci 1)),mq 5 106] (some [2,3,5]))))))) (.seq (sr [oo 6 (.mv (ci 0))] [2,3,6] (.block 2 (.loop (.seq (sr [mq 118 6,fi 119 7 2,lq 120 119,oo 121 (.len (tp 120) false),oo 122 (.bin .lss (tp 118) (tp 121))] [2,3,6,122] (.cond (tp 122) .skip (.exit 2))) (.seq (.block 3 (.seq (.draw [fi 125 7 2,lq 126 125,mq 127 6,oo 128 (.idxA 9 (tp 126) (tp 127)),oo 129 (.load (some 9) (tp 128)),fi 130 7 3,lq 131 130,mq 132 6,oo 133 (.idxA 9 (tp 131) (tp 132)),oo 134 (.load (some 9) (tp 133)),oo 7 (.alloc 78 [.pd (.raw (.string ⟨#[]⟩)),.pd (.raw (.int .i64 0)),.pd (.raw (.bool false)),.pd (.raw (.string ⟨#[]⟩)),.pd (.raw (.int .i64 0)),.pd (.raw (.string ⟨#[]⟩)),.pd (.raw (.string ⟨#[]⟩)),.pd (.raw (.int .i64 0)),.nils]),oo 8 (.alloc 78 [.pd (.raw (.string ⟨#[]⟩)),.pd (.raw (.int .i64 0)),.pd (.raw (.bool false)),.pd (.raw (.string ⟨#[]⟩)),.pd (.raw (.int .i64 0)),.pd (.raw (.string ⟨#[]⟩)),.pd (.raw (.string ⟨#[]⟩)),.pd (.raw (.int .i64 0)),.nils]),.mk none none (.store 9 (tp 7) (tp 129)),.mk none none (.store 9 (tp 8) (tp 134))] [0,1,0,7,15,0,32,0,224,480,0,0,3103,8191] (.take 0 (.take 1 (.take 2 (.take 3 (.take 4 (.take 5 (.take 6 (.take 7 (.take 8 (.take 9 (.alts (.cons 10 false (.alts (.cons 11 false (.alts (.cons 12 false (.alts (.cons 13 true .done .nil)) .nil)) .nil)) (.cons 11 false (.alts (.cons 10 false (.alts (.cons 12 false (.alts (.cons 13 true .done .nil)) .nil)) .nil)) .nil))))))))))))) (some [2,3,6,7,8])) (sr [fi 135 0 7,lq 136 135,fi 137 0 8,lq 138 137,oo 139 (.bin .neq (tp 136) (tp 138)),mq 140 139,og 140 false 141 (.fieldA 1 (tp 7)),og 140 false 142 (.load none (tp 141)),og 140 false 143 (.fieldA 1 (tp 8)),og 140 false 144 (.load none (tp 143)),og 140 false 145 (.bin .neq (tp 142) (tp 144)),oo 146 (.pick (tp 140) (cq true) (tp 145)),mq 147 146,og 147 false 148 (.fieldA 2 (tp 7)),og 147 false 149 (.load none (tp 148)),og 147 false 150 (.fieldA 2 (tp 8)),og 147 false 151 (.load none (tp 150)),og 147 false 152 (.binB true (tp 149) (tp 151)),oo 153 (.pick (tp 147) (cq true) (tp 152)),mq 154 153,og 154 false 155 (.fieldA 3 (tp 7)),og 154 false 156 (.load none (tp 155)),og 154 false 157 (.fieldA 3 (tp 8)),og 154 false 158 (.load none (tp 157)),og 154 false 159 (.bin .neq (tp 156) (tp 158)),oo 160 (.pick (tp 154) (cq true) (tp 159)),mq 161 160,og 161 false 162 (.fieldA 4 (tp 7)),og 161 false 163 (.load (some 3) (tp 162)),og 161 false 164 (.fieldA 4 (tp 8)),og 161 false 165 (.load (some 3) (tp 164)),og 161 false 166 (.eqs true [.int,.str,.str] (tp 163) (tp 165)),oo 167 (.pick (tp 161) (cq true) (tp 166)),mq 168 167,og 168 false 169 (.fieldA 7 (tp 7)),og 168 false 170 (.load none (tp 169)),og 168 false 171 (.fieldA 7 (tp 8)),og 168 false 172 (.load none (tp 171)),og 168 false 173 (.bin .neq (tp 170) (tp 172)),oo 174 (.pick (tp 168) (cq true) (tp 173)),mq 175 174,og 175 false 176 (.fieldA 8 (tp 7)),og 175 false 177 (.load none (tp 176)),og 175 false 178 (.fieldA 8 (tp 8)),og 175 false 179 (.load none (tp 178)),og 175 false 180 (.call 67 [tp 177,tp 179]),og 175 false 181 (.un .not (tp 180)),oo 182 (.pick (tp 175) (cq true) (tp 181))] [2,3,6,182] (.cond (tp 182) (sr [oo 4 (.mv (cq false))] [4] .ret) .skip)))) (.region [mq 123 6,oo 124 (.bin .add (tp 123) (ci 1)),mq 6 124] (some [2,3,6]))))))) (.seq (sr [oo 9 (.mv (ci 0))] [2,3,9] (.block 4 (.loop (.seq (sr [mq 183 9,fi 184 8 2,lq 185 184,oo 186 (.len (tp 185) false),oo 187 (.bin .lss (tp 183) (tp 186))] [2,3,9,187] (.cond (tp 187) .skip (.exit 4))) (.seq (.block 5 (.seq (.draw [fi 190 8 2,lq 191 190,mq 192 9,oo 193 (.idxA 4 (tp 191) (tp 192)),oo 194 (.load (some 4) (tp 193)),fi 195 8 3,lq 196 195,mq 197 9,oo 198 (.idxA 4 (tp 196) (tp 197)),oo 199 (.load (some 4) (tp 198)),oo 200 (.eqs true [.str,.str,.str,.int] (tp 194) (tp 199))] [0,1,0,7,15,0,32,0,224,480,1023] (.take 0 (.take 1 (.take 2 (.take 3 (.take 4 (.take 5 (.take 6 (.take 7 (.take 8 (.take 9 (.take 10 .done))))))))))) (some [2,3,9,200])) (.cond (tp 200) (sr [oo 4 (.mv (cq false))] [4] .ret) .skip))) (.region [mq 188 9,oo 189 (.bin .add (tp 188) (ci 1)),mq 9 189] (some [2,3,9]))))))) (.seq (sr [oo 10 (.mv (ci 0))] [2,3,10] (.block 6 (.loop (.seq (sr [mq 201 10,fi 202 11 2,lq 203 202,oo 204 (.len (tp 203) false),oo 205 (.bin .lss (tp 201) (tp 204))] [2,3,10,205] (.cond (tp 205) .skip (.exit 6))) (.seq (.block 7 (.seq (.draw [fi 208 11 2,lq 209 208,mq 210 10,oo 211 (.idxA 3 (tp 209) (tp 210)),oo 212 (.load (some 3) (tp 211)),fi 213 11 3,lq 214 213,mq 215 10,oo 216 (.idxA 3 (tp 214) (tp 215)),oo 217 (.load (some 3) (tp 216)),oo 218 (.eqs true [.int,.str,.str] (tp 212) (tp 217))] [0,1,0,7,15,0,32,0,224,480,1023] (.take 0 (.take 1 (.take 2 (.take 3 (.take 4 (.take 5 (.take 6 (.take 7 (.take 8 (.take 9 (.take 10 .done))))))))))) (some [2,3,10,218])) (.cond (tp 218) (sr [oo 4 (.mv (cq false))] [4] .ret) .skip))) (.region [mq 206 10,oo 207 (.bin .add (tp 206) (ci 1)),mq 10 207] (some [2,3,10]))))))) (.seq (sr [oo 11 (.mv (ci 0))] [2,3,11] (.block 8 (.loop (.seq (sr [mq 219 11,fi 220 12 2,lq 221 220,oo 222 (.len (tp 221) false),oo 223 (.bin .lss (tp 219) (tp 222))] [2,3,11,223] (.cond (tp 223) .skip (.exit 8))) (.seq (.block 9 (.seq (.draw [fi 226 12 2,lq 227 226,mq 228 11,oo 229 (.idxA 3 (tp 227) (tp 228)),oo 230 (.load (some 3) (tp 229)),fi 231 12 3,lq 232 231,mq 233 11,oo 234 (.idxA 3 (tp 232) (tp 233)),oo 235 (.load (some 3) (tp 234)),oo 236 (.eqs true [.int,.str,.str] (tp 230) (tp 235))] [0,1,0,7,15,0,32,0,224,480,1023] (.take 0 (.take 1 (.take 2 (.take 3 (.take 4 (.take 5 (.take 6 (.take 7 (.take 8 (.take 9 (.take 10 .done))))))))))) (some [2,3,11,236])) (.cond (tp 236) (sr [oo 4 (.mv (cq false))] [4] .ret) .skip))) (.region [mq 224 11,oo 225 (.bin .add (tp 224) (ci 1)),mq 11 225] (some [2,3,11]))))))) (.seq (sr [oo 12 (.mv (ci 0))] [2,3,12] (.block 10 (.loop (.seq (sr [mq 237 12,fi 238 10 2,lq 239 238,oo 240 (.len (tp 239) false),oo 241 (.bin .lss (tp 237) (tp 240))] [2,3,12,241] (.cond (tp 241) .skip (.exit 10))) (.seq (.block 11 (.seq (.draw [fi 244 10 2,lq 245 244,mq 246 12,oo 247 (.idxA 3 (tp 245) (tp 246)),oo 248 (.load (some 3) (tp 247)),fi 249 10 3,lq 250 249,mq 251 12,oo 252 (.idxA 3 (tp 250) (tp 251)),oo 253 (.load (some 3) (tp 252)),oo 254 (.call 68 [tp 248,tp 253]),oo 255 (.un .not (tp 254))] [0,1,0,7,15,0,32,0,224,480,1023,2047] (.take 0 (.take 1 (.take 2 (.take 3 (.take 4 (.take 5 (.take 6 (.take 7 (.take 8 (.take 9 (.alts (.cons 10 true (.take 11 .done) .nil)))))))))))) (some [2,3,12,255])) (.cond (tp 255) (sr [oo 4 (.mv (cq false))] [4] .ret) .skip))) (.region [mq 242 12,oo 243 (.bin .add (tp 242) (ci 1)),mq 12 243] (some [2,3,12]))))))) (sr [oo 4 (.mv (cq true))] [4] .ret))))))))))
def an_zwcd : Ann := ann [0,1,2,3,4,5,6,8,9,7,10,11,13,14,15,12,16,17,19,20,18,21,22,24,25,23,26,27,29,30,28,31,32,34,35,33,36] ac_zwcd
theorem ok_zwcd : okd Tryz.prog an_zwcd ac_zwcd Tryz.f19 := ⟨by kernel_rfl, by kernel_rfl⟩

def ac_z40mp : AC := (sr [oo 2 (.box 23 (tp 0)),oo 4 (.alloc 23 [.pd (.raw (.int .i64 0)),.pd (.raw (.string ⟨#[]⟩)),.pd (.raw (.string ⟨#[]⟩))])] [1,2,4] (.seq (sr [fi 5 0 2,lq 6 5,oo 7 (.bin .neq (tp 6) (ci 1)),mq 8 7,og 8 true 9 (.fieldA 0 (tp 2)),og 8 true 10 (.load none (tp 9)),og 8 true 11 (.bin .neq (tp 10) (ci 2)),oo 12 (.pick (tp 8) (tp 11) (cq false)),mq 13 12,og 13 true 14 (.fieldA 1 (tp 2)),og 13 true 15 (.load none (tp 14)),og 13 true 16 (.bin .eql (tp 15) (.const (.string ⟨#[]⟩))),oo 17 (.pick (tp 13) (tp 16) (cq false))] [1,2,4,17] (.cond (tp 17) (.region [mq 18 1,fi 19 1 2,.mk none none (.store 1 (tp 19) (tp 18))] (some [2,4])) .skip)) (sr [oo 20 (.load (some 3) (tp 2)),.mk none none (.store 3 (tp 4) (tp 20))] [4] .ret)))
def an_z40mp : Ann := ann (List.range 4) ac_z40mp
theorem ok_z40mp : okd Tryz.prog an_z40mp ac_z40mp Tryz.f21 := ⟨by kernel_rfl, by kernel_rfl⟩
theorem ret_z40mp (st : St) : resD Tryz.prog st Tryz.f21.results.toList = resA st [.cell 4 (some 3)] := resD_of (by kernel_rfl)

def ac_zjm7s : AC := (sr [oo 4 (.box 32 (tp 0)),oo 7 (.box 23 (tp 3)),oo 8 (.mv (cq false))] [1,2,4,7] (.seq (sr [fi 11 0 4,fi 12 0 11,lq 13 12,oo 14 (.bin .neq (tp 13) (ci 7)),mq 15 14,og 15 false 16 (.fieldA 0 (tp 4)),og 15 false 17 (.fieldA 1 (tp 16)),og 15 false 18 (.load none (tp 17)),og 15 false 19 (.fieldA 1 (tp 7)),og 15 false 20 (.load none (tp 19)),og 15 false 21 (.bin .neq (tp 18) (tp 20)),oo 22 (.pick (tp 15) (cq true) (tp 21)),mq 23 22,og 23 false 24 (.load (some 13) (tp 4)),og 23 false 25 (.call 12 [tp 24]),og 23 false 26 (.un .not (tp 25)),oo 27 (.pick (tp 23) (cq true) (tp 26))] [1,2,4,7,27] (.cond (tp 27) (sr [oo 8 (.mv (cq false))] [8] .ret) .skip)) (.seq (sr [oo 9 (.mv (ci 0))] [1,2,4,7,9] (.block 0 (.loop (.seq (sr [mq 28 9,fi 29 11 4,lq 30 29,oo 31 (.len (tp 30) false),oo 32 (.bin .lss (tp 28) (tp 31))] [1,2,4,7,9,32] (.cond (tp 32) .skip (.exit 0))) (.seq (.block 1 (sr [oo 10 (.mv (ci 0))] [1,2,4,7,9,10] (.block 2 (.loop (.seq (sr [mq 35 10,fi 36 12 4,lq 37 36,oo 38 (.len (tp 37) false),oo 39 (.bin .lss (tp 35) (tp 38))] [1,2,4,7,9,10,39] (.cond (tp 39) .skip (.exit 2))) (.seq (.block 3 (.seq (.draw [fi 42 11 4,lq 43 42,mq 44 9,oo 45 (.idxA 3 (tp 43) (tp 44)),fi 46 0 45,lq 47 46,mq 48 1,oo 49 (.bin .eql (tp 47) (tp 48)),mq 50 49,og 50 true 51 (.fieldA 11 (tp 4)),og 50 true 52 (.load none (tp 51)),og 50 true 53 (.mv (tp 9)),og 50 true 54 (.idxA 3 (tp 52) (tp 53)),og 50 true 55 (.fieldA 1 (tp 54)),og 50 true 56 (.load none (tp 55)),og 50 true 57 (.mv (tp 2)),og 50 true 58 (.bin .eql (tp 56) (tp 57)),oo 59 (.pick (tp 50) (tp 58) (cq false)),mq 60 59,og 60 true 61 (.fieldA 12 (tp 4)),og 60 true 62 (.load none (tp 61)),og 60 true 63 (.mv (tp 10)),og 60 true 64 (.idxA 3 (tp 62) (tp 63)),og 60 true 65 (.fieldA 0 (tp 64)),og 60 true 66 (.load none (tp 65)),og 60 true 67 (.fieldA 0 (tp 7)),og 60 true 68 (.load none (tp 67)),og 60 true 69 (.bin .eql (tp 66) (tp 68)),oo 70 (.pick (tp 60) (tp 69) (cq false)),mq 71 70,og 71 true 72 (.fieldA 12 (tp 4)),og 71 true 73 (.load none (tp 72)),og 71 true 74 (.mv (tp 10)),og 71 true 75 (.idxA 3 (tp 73) (tp 74)),og 71 true 76 (.fieldA 2 (tp 75)),og 71 true 77 (.load none (tp 76)),og 71 true 78 (.bin .eql (tp 77) (.const (.string ⟨#[]⟩))),og 71 true 79 (.mv (tp 78)),og 79 false 80 (.fieldA 12 (tp 4)),og 79 false 81 (.load none (tp 80)),og 79 false 82 (.mv (tp 10)),og 79 false 83 (.idxA 3 (tp 81) (tp 82)),og 79 false 84 (.fieldA 2 (tp 83)),og 79 false 85 (.load none (tp 84)),og 79 false 86 (.fieldA 2 (tp 7)),og 79 false 87 (.load none (tp 86)),og 79 false 88 (.bin .eql (tp 85) (tp 87)),og 71 true 89 (.pick (tp 79) (cq true) (tp 88)),oo 90 (.pick (tp 71) (tp 89) (cq false))] [0,1,0,7,15,31,0,127,255,511,1023,511,4095,8191,16383,511,65535,131071,262143,524287,1048575,524287,4194303,8388607,16777215,524287,34078719,134217727,268435455,536870911,1073741823,2147483647,1073741823,8589934591,17179869183,34359738367,68719476735,137438953471,274877906943,549755813887,274877906943,2199023255551,4398046511103,8796093022207,274877906943,17867063951359,70368744177663,140737488355327,281474976710655] (.take 0 (.take 1 (.take 2 (.take 3 (.take 4 (.take 5 (.take 6 (.take 7 (.take 8 (.take 9 (.take 10 (.take 11 (.take 12 (.take 13 (.take 14 (.take 15 (.take 16 (.take 17 (.take 18 (.take 19 (.take 20 (.take 21 (.take 22 (.take 23 (.take 24 (.take 25 (.take 26 (.take 27 (.take 28 (.take 29 (.take 30 (.take 31 (.take 32 (.take 33 (.take 34 (.take 35 (.take 36 (.take 37 (.take 38 (.take 39 (.take 40 (.take 41 (.take 42 (.take 43 (.take 44 (.take 45 (.take 46 (.take 47 (.take 48 .done))))))))))))))))))))))))))))))))))))))))))))))))) (some [1,2,4,7,9,10,90])) (.cond (tp 90) (sr [oo 8 (.mv (cq true))] [8] .ret) .skip))) (.region [mq 40 10,oo 41 (.bin .add (tp 40) (ci 1)),mq 10 41] (some [1,2,4,7,9,10])))))))) (.region [mq 33 9,oo 34 (.bin .add (tp 33) (ci 1)),mq 9 34] (some [1,2,4,7,9]))))))) (sr [oo 8 (.mv (cq false))] [8] .ret))))
def an_zjm7s : Ann := ann [0,1,2,3,4,6,7,9,10,8,5,11] ac_zjm7s
theorem ok_zjm7s : okd Tryz.prog an_zjm7s ac_zjm7s Tryz.f22 := ⟨by kernel_rfl, by kernel_rfl⟩

def ac_zm32y : AC := (sr [oo 7 (.box 23 (tp 3)),oo 8 (.mv (cq false))] [0,1,2,7] (sr [mq 9 2,fi 10 1 7,lq 11 10,oo 12 (.bin .eql (tp 9) (tp 11)),mq 13 12,og 13 false 14 (.mv (tp 0)),og 13 false 15 (.mv (tp 1)),og 13 false 16 (.mv (tp 2)),og 13 false 17 (.load (some 3) (tp 7)),og 13 false 18 (.call 25 [tp 14,tp 15,tp 16,tp 17]),og 13 false 19 (.len (tp 18) false),og 13 false 20 (.bin .gtr (tp 19) (ci 0)),oo 21 (.pick (tp 13) (cq true) (tp 20)),mq 8 21] [8] .ret))
def an_zm32y : Ann := ann (List.range 2) ac_zm32y
theorem ok_zm32y : okd Tryz.prog an_zm32y ac_zm32y Tryz.f23 := ⟨by kernel_rfl, by kernel_rfl⟩

def ac_zvzmk : AC := (sr [oo 4 (.mv (cq false))] [0,1] (.seq (sr [mq 6 0,oo 7 (.len (tp 6) false),mq 8 1,oo 9 (.len (tp 8) false),oo 10 (.bin .neq (tp 7) (tp 9))] [0,1,10] (.cond (tp 10) (sr [oo 4 (.mv (cq false))] [4] .ret) .skip)) (.seq (sr [oo 5 (.mv (ci 0))] [0,1,5] (.block 0 (.loop (.seq (sr [mq 11 5,mq 12 0,oo 13 (.len (tp 12) false),oo 14 (.bin .lss (tp 11) (tp 13))] [0,1,5,14] (.cond (tp 14) .skip (.exit 0))) (.seq (.block 1 (.seq (.draw [mq 17 0,mq 18 5,oo 19 (.idxA 3 (tp 17) (tp 18)),oo 20 (.load (some 3) (tp 19)),mq 21 1,mq 22 5,oo 23 (.idxA 3 (tp 21) (tp 22)),oo 24 (.load (some 3) (tp 23)),oo 25 (.eqs true [.int,.str,.str] (tp 20) (tp 24))] [0,0,3,7,0,0,48,112,255] (.take 0 (.take 1 (.take 2 (.take 3 (.take 4 (.take 5 (.take 6 (.take 7 (.take 8 .done))))))))) (some [0,1,5,25])) (.cond (tp 25) (sr [oo 4 (.mv (cq false))] [4] .ret) .skip))) (.region [mq 15 5,oo 16 (.bin .add (tp 15) (ci 1)),mq 5 16] (some [0,1,5]))))))) (sr [oo 4 (.mv (cq true))] [4] .ret))))
def an_zvzmk : Ann := ann [0,1,2,3,4,6,7,5,8] ac_zvzmk
theorem ok_zvzmk : okd Tryz.prog an_zvzmk ac_zvzmk Tryz.f24 := ⟨by kernel_rfl, by kernel_rfl⟩

def ac_zan0 : AC := (sr [oo 7 (.box 23 (tp 3)),oo 8 (.mv (.const (.slice none 0 0)))] [0,1,2,7] (sr [oo 9 (.mv (.const (.slice none 0 0)))] [0,1,2,7,9] (.seq (sr [oo 10 (.mv (ci 0))] [0,1,2,7,9,10] (.block 0 (.loop (.seq (sr [mq 11 10,mq 12 0,oo 13 (.len (tp 12) false),oo 14 (.bin .lss (tp 11) (tp 13))] [0,1,2,7,9,10,14] (.cond (tp 14) .skip (.exit 0))) (.seq (.block 1 (.seq (.draw [mq 17 0,mq 18 10,oo 19 (.idxA 13 (tp 17) (tp 18)),oo 20 (.load (some 13) (tp 19)),mq 21 1,mq 22 2,oo 23 (.load (some 3) (tp 7)),oo 24 (.call 22 [tp 20,tp 21,tp 22,tp 23])] [0,0,3,7,0,0,0,127] (.take 0 (.take 1 (.take 2 (.take 3 (.take 4 (.take 5 (.take 6 (.alts (.cons 7 true .done .nil))))))))) (some [0,1,2,7,9,10,24])) (.cond (tp 24) (.region [mq 25 9,mq 26 0,mq 27 10,oo 28 (.idxA 13 (tp 26) (tp 27)),fi 29 0 28,oo 30 (.load (some 3) (tp 29)),oo 31 (.bslice 23 3 [tp 30]),oo 32 (.append 23 3 40 (tp 25) (tp 31)),mq 9 32] (some [0,1,2,7,9,10])) .skip))) (.region [mq 15 10,oo 16 (.bin .add (tp 15) (ci 1)),mq 10 16] (some [0,1,2,7,9,10]))))))) (sr [mq 33 9,mq 8 33] [8] .ret))))
def an_zan0 : Ann := ann [0,1,2,3,5,4,6,7] ac_zan0
theorem ok_zan0 : okd Tryz.prog an_zan0 ac_zan0 Tryz.f25 := ⟨by kernel_rfl, by kernel_rfl⟩

def ac_zvuu8 : AC := (sr [oo 1 (.box 23 (tp 0)),oo 2 (.mv (cq false))] [1] (.seq (sr [fi 3 0 1,lq 4 3,oo 5 (.bin .lss (tp 4) (ci 1)),mq 6 5,og 6 false 7 (.fieldA 0 (tp 1)),og 6 false 8 (.load none (tp 7)),og 6 false 9 (.bin .gtr (tp 8) (ci 7)),oo 10 (.pick (tp 6) (cq true) (tp 9))] [1,10] (.cond (tp 10) (sr [oo 2 (.mv (cq false))] [2] .ret) .skip)) (.seq (sr [fi 11 0 1,lq 12 11,oo 13 (.bin .lss (tp 12) (ci 3))] [1,13] (.cond (tp 13) (sr [fi 14 1 1,lq 15 14,oo 16 (.bin .eql (tp 15) (.const (.string ⟨#[]⟩))),mq 17 16,og 17 true 18 (.fieldA 0 (tp 1)),og 17 true 19 (.load none (tp 18)),og 17 true 20 (.bin .eql (tp 19) (ci 1)),og 17 true 21 (.mv (tp 20)),og 21 true 22 (.fieldA 2 (tp 1)),og 21 true 23 (.load none (tp 22)),og 21 true 24 (.call 88 [tp 23]),og 17 true 25 (.pick (tp 21) (tp 24) (cq false)),og 17 true 26 (.mv (tp 25)),og 26 false 27 (.fieldA 0 (tp 1)),og 26 false 28 (.load none (tp 27)),og 26 false 29 (.bin .eql (tp 28) (ci 2)),og 26 false 30 (.mv (tp 29)),og 30 true 31 (.fieldA 2 (tp 1)),og 30 true 32 (.load none (tp 31)),og 30 true 33 (.call 89 [tp 32]),og 26 false 34 (.pick (tp 30) (tp 33) (cq false)),og 17 true 35 (.pick (tp 26) (cq true) (tp 34)),oo 36 (.pick (tp 17) (tp 35) (cq false)),mq 2 36] [2] .ret) .skip)) (sr [fi 37 1 1,lq 38 37,oo 39 (.call 89 [tp 38]),mq 40 39,og 40 true 41 (.fieldA 2 (tp 1)),og 40 true 42 (.load none (tp 41)),og 40 true 43 (.call 88 [tp 42]),oo 44 (.pick (tp 40) (tp 43) (cq false)),mq 2 44] [2] .ret))))
def an_zvuu8 : Ann := ann (List.range 6) ac_zvuu8
theorem ok_zvuu8 : okd Tryz.prog an_zvuu8 ac_zvuu8 Tryz.f54 := ⟨by kernel_rfl, by kernel_rfl⟩

def ac_zgvgo : AC := (sr [oo 2 (.mv (cq false))] [0] (.seq (sr [oo 3 (.mv (ci 0))] [0,3] (.block 0 (.loop (.seq (sr [mq 4 3,mq 5 0,oo 6 (.len (tp 5) false),oo 7 (.bin .lss (tp 4) (tp 6))] [0,3,7] (.cond (tp 7) .skip (.exit 0))) (.seq (.block 1 (.seq (.draw [mq 10 0,mq 11 3,oo 12 (.idxA 2 (tp 10) (tp 11)),fi 13 0 12,lq 14 13,oo 15 (.call 88 [tp 14]),oo 16 (.un .not (tp 15)),mq 17 16,og 17 false 18 (.mv (tp 0)),og 17 false 19 (.mv (tp 3)),og 17 false 20 (.idxA 2 (tp 18) (tp 19)),og 17 false 21 (.fieldA 1 (tp 20)),og 17 false 22 (.load none (tp 21)),og 17 false 23 (.call 90 [tp 22]),og 17 false 24 (.un .not (tp 23)),oo 25 (.pick (tp 17) (cq true) (tp 24)),mq 26 25,og 26 false 27 (.mv (tp 3)),og 26 false 28 (.bin .gtr (tp 27) (ci 0)),og 26 false 29 (.mv (tp 28)),og 29 true 30 (.mv (tp 0)),og 29 true 31 (.mv (tp 3)),og 29 true 32 (.idxA 2 (tp 30) (tp 31)),og 29 true 33 (.fieldA 0 (tp 32)),og 29 true 34 (.load none (tp 33)),og 29 true 35 (.mv (tp 0)),og 29 true 36 (.mv (tp 3)),og 29 true 37 (.bin .sub (tp 36) (ci 1)),og 29 true 38 (.idxA 2 (tp 35) (tp 37)),og 29 true 39 (.fieldA 0 (tp 38)),og 29 true 40 (.load none (tp 39)),og 29 true 41 (.bin .leq (tp 34) (tp 40)),og 26 false 42 (.pick (tp 29) (tp 41) (cq false)),oo 43 (.pick (tp 26) (cq true) (tp 42))] [0,0,3,7,15,31,63,127,255,255,1023,2047,4095,8191,16383,32767,65535,131071,262143,524287,1048575,1048575,4194303,8388607,16777215,1048575,1048575,68157439,235929599,504365055,1041235967,2147483647,4294967295,8589934591] (.take 0 (.take 1 (.take 2 (.take 3 (.take 4 (.alts (.cons 5 true (.take 6 (.take 7 (.take 8 (.take 9 (.take 10 (.take 11 (.take 12 (.alts (.cons 13 true (.take 14 (.take 15 (.take 16 (.take 17 (.take 18 (.take 19 (.take 20 (.take 21 (.take 22 (.take 23 (.take 24 (.take 25 (.take 26 (.take 27 (.take 28 (.take 29 (.take 30 (.take 31 (.take 32 (.take 33 .done)))))))))))))))))))) .nil))))))))) .nil))))))) (some [0,3,43])) (.cond (tp 43) (sr [oo 2 (.mv (cq false))] [2] .ret) .skip))) (.region [mq 8 3,oo 9 (.bin .add (tp 8) (ci 1)),mq 3 9] (some [0,3]))))))) (sr [mq 44 0,oo 45 (.len (tp 44) false),oo 46 (.bin .leq (tp 45) (ci 8)),mq 2 46] [2] .ret)))
def an_zgvgo : Ann := ann [0,1,2,4,5,3,6] ac_zgvgo
theorem ok_zgvgo : okd Tryz.prog an_zgvgo ac_zgvgo Tryz.f55 := ⟨by kernel_rfl, by kernel_rfl⟩

def ac_ztb7v : AC := (sr [oo 2 (.mv (cq false))] [0] (sr [mq 3 0,oo 4 (.bin .leq (ci 1) (tp 3)),mq 5 4,og 5 true 6 (.mv (tp 0)),og 5 true 7 (.bin .leq (tp 6) (ci 65535)),oo 8 (.pick (tp 5) (tp 7) (cq false)),mq 2 8] [2] .ret))
def an_ztb7v : Ann := ann (List.range 2) ac_ztb7v
theorem ok_ztb7v : okd Tryz.prog an_ztb7v ac_ztb7v Tryz.f56 := ⟨by kernel_rfl, by kernel_rfl⟩

def ac_zlyo9 : AC := (sr [oo 1 (.box 32 (tp 0)),oo 2 (.mv (cq false))] [1] (sr [fi 7 7 1,lq 8 7,mq 3 8] [1,3] (.seq (sr [oo 4 (.mv (ci 0))] [1,3,4] (.block 0 (.loop (.seq (sr [mq 9 4,mq 10 3,oo 11 (.len (tp 10) false),oo 12 (.bin .lss (tp 9) (tp 11))] [1,3,4,12] (.cond (tp 12) .skip (.exit 0))) (.seq (.block 1 (sr [mq 15 3,mq 16 4,oo 17 (.idxA 9 (tp 15) (tp 16)),oo 18 (.load (some 9) (tp 17)),oo 5 (.alloc 78 [.pd (.raw (.string ⟨#[]⟩)),.pd (.raw (.int .i64 0)),.pd (.raw (.bool false)),.pd (.raw (.string ⟨#[]⟩)),.pd (.raw (.int .i64 0)),.pd (.raw (.string ⟨#[]⟩)),.pd (.raw (.string ⟨#[]⟩)),.pd (.raw (.int .i64 0)),.nils]),.mk none none (.store 9 (tp 5) (tp 18))] [1,3,4,5] (.seq (sr [oo 6 (.mv (ci 0))] [1,3,4,5,6] (.block 2 (.loop (.seq (sr [mq 19 6,mq 20 4,oo 21 (.bin .lss (tp 19) (tp 20))] [1,3,4,5,6,21] (.cond (tp 21) .skip (.exit 2))) (.seq (.block 3 (.seq (.draw [mq 24 3,mq 25 6,oo 26 (.idxA 9 (tp 24) (tp 25)),fi 27 0 26,lq 28 27,fi 29 0 5,lq 30 29,oo 31 (.bin .eql (tp 28) (tp 30))] [0,0,3,7,15,0,32,127] (.take 0 (.take 1 (.take 2 (.take 3 (.take 4 (.take 5 (.take 6 (.take 7 .done)))))))) (some [1,3,4,5,6,31])) (.cond (tp 31) (sr [oo 2 (.mv (cq false))] [2] .ret) .skip))) (.region [mq 22 6,oo 23 (.bin .add (tp 22) (ci 1)),mq 6 23] (some [1,3,4,5,6]))))))) (.seq (sr [fi 32 0 5,lq 33 32,oo 34 (.call 89 [tp 33]),oo 35 (.un .not (tp 34)),mq 36 35,og 36 false 37 (.fieldA 1 (tp 5)),og 36 false 38 (.load none (tp 37)),og 36 false 39 (.call 56 [tp 38]),og 36 false 40 (.un .not (tp 39)),oo 41 (.pick (tp 36) (cq true) (tp 40)),mq 42 41,og 42 false 43 (.fieldA 3 (tp 5)),og 42 false 44 (.load none (tp 43)),og 42 false 45 (.call 91 [tp 44]),og 42 false 46 (.un .not (tp 45)),oo 47 (.pick (tp 42) (cq true) (tp 46)),mq 48 47,og 48 false 49 (.fieldA 7 (tp 5)),og 48 false 50 (.load none (tp 49)),og 48 false 51 (.bin .lss (tp 50) (ci 0)),oo 52 (.pick (tp 48) (cq true) (tp 51)),mq 53 52,og 53 false 54 (.fieldA 7 (tp 5)),og 53 false 55 (.load none (tp 54)),og 53 false 56 (.bin .gtr (tp 55) (ci 2)),oo 57 (.pick (tp 53) (cq true) (tp 56)),mq 58 57,og 58 false 59 (.fieldA 8 (tp 5)),og 58 false 60 (.load none (tp 59)),og 58 false 61 (.call 92 [tp 60]),og 58 false 62 (.un .not (tp 61)),oo 63 (.pick (tp 58) (cq true) (tp 62)),mq 64 63,og 64 false 65 (.fieldA 7 (tp 5)),og 64 false 66 (.load none (tp 65)),og 64 false 67 (.bin .neq (tp 66) (ci 2)),og 64 false 68 (.mv (tp 67)),og 68 true 69 (.fieldA 8 (tp 5)),og 68 true 70 (.load none (tp 69)),og 68 true 71 (.len (tp 70) false),og 68 true 72 (.bin .gtr (tp 71) (ci 0)),og 64 false 73 (.pick (tp 68) (tp 72) (cq false)),oo 74 (.pick (tp 64) (cq true) (tp 73))] [1,3,4,5,74] (.cond (tp 74) (sr [oo 2 (.mv (cq false))] [2] .ret) .skip)) (.seq (sr [fi 75 2 5,lq 76 75,mq 77 76,og 77 true 78 (.fieldA 4 (tp 5)),og 77 true 79 (.fieldA 0 (tp 78)),og 77 true 80 (.load none (tp 79)),og 77 true 81 (.bin .neq (tp 80) (ci 4)),og 77 true 82 (.mv (tp 81)),og 82 false 83 (.fieldA 4 (tp 5)),og 82 false 84 (.fieldA 1 (tp 83)),og 82 false 85 (.load none (tp 84)),og 82 false 86 (.call 93 [tp 85]),og 82 false 87 (.un .not (tp 86)),og 77 true 88 (.pick (tp 82) (cq true) (tp 87)),og 77 true 89 (.mv (tp 88)),og 89 false 90 (.fieldA 4 (tp 5)),og 89 false 91 (.fieldA 2 (tp 90)),og 89 false 92 (.load none (tp 91)),og 89 false 93 (.call 88 [tp 92]),og 89 false 94 (.un .not (tp 93)),og 77 true 95 (.pick (tp 89) (cq true) (tp 94)),oo 96 (.pick (tp 77) (tp 95) (cq false))] [1,3,4,5,96] (.cond (tp 96) (sr [oo 2 (.mv (cq false))] [2] .ret) .skip)) (sr [fi 97 2 5,lq 98 97,oo 99 (.un .not (tp 98)),mq 100 99,og 100 true 101 (.fieldA 4 (tp 5)),og 100 true 102 (.load (some 3) (tp 101)),og 100 true 103 (.build [.pd (.raw (.int .i64 0)),.pd (.raw (.string ⟨#[]⟩)),.pd (.raw (.string ⟨#[]⟩))] []),og 100 true 104 (.eqs true [.int,.str,.str] (tp 102) (tp 103)),oo 105 (.pick (tp 100) (tp 104) (cq false))] [1,3,4,105] (.cond (tp 105) (sr [oo 2 (.mv (cq false))] [2] .ret) .skip))))))) (.region [mq 13 4,oo 14 (.bin .add (tp 13) (ci 1)),mq 4 14] (some [1,3,4]))))))) (sr [fi 106 6 1,lq 107 106,oo 108 (.call 88 [tp 107]),mq 109 108,og 109 true 110 (.mv (tp 3)),og 109 true 111 (.len (tp 110) false),og 109 true 112 (.bin .leq (ci 1) (tp 111)),oo 113 (.pick (tp 109) (tp 112) (cq false)),mq 114 113,og 114 true 115 (.mv (tp 3)),og 114 true 116 (.len (tp 115) false),og 114 true 117 (.bin .leq (tp 116) (ci 8)),oo 118 (.pick (tp 114) (tp 117) (cq false)),mq 2 118] [2] .ret))))
def an_zlyo9 : Ann := ann [0,1,2,3,5,6,7,9,10,8,11,12,13,14,15,16,4,17] ac_zlyo9
theorem ok_zlyo9 : okd Tryz.prog an_zlyo9 ac_zlyo9 Tryz.f57 := ⟨by kernel_rfl, by kernel_rfl⟩

def ac_zgo5l : AC := (sr [oo 1 (.box 32 (tp 0)),oo 2 (.mv (cq false))] [1] (.seq (sr [oo 3 (.mv (ci 0))] [1,3] (.block 0 (.loop (.seq (sr [mq 9 3,fi 10 8 1,lq 11 10,oo 12 (.len (tp 11) false),oo 13 (.bin .lss (tp 9) (tp 12))] [1,3,13] (.cond (tp 13) .skip (.exit 0))) (.seq (.block 1 (sr [fi 16 8 1,lq 17 16,mq 18 3,oo 19 (.idxA 4 (tp 17) (tp 18)),oo 20 (.load (some 4) (tp 19)),oo 4 (.alloc 81 [.pd (.raw (.string ⟨#[]⟩)),.pd (.raw (.string ⟨#[]⟩)),.pd (.raw (.string ⟨#[]⟩)),.pd (.raw (.int .i64 0))]),.mk none none (.store 4 (tp 4) (tp 20))] [1,3,4] (.seq (sr [fi 21 0 4,lq 22 21,oo 23 (.call 93 [tp 22]),oo 24 (.un .not (tp 23)),mq 25 24,og 25 false 26 (.fieldA 1 (tp 4)),og 25 false 27 (.load none (tp 26)),og 25 false 28 (.call 88 [tp 27]),og 25 false 29 (.un .not (tp 28)),oo 30 (.pick (tp 25) (cq true) (tp 29)),mq 31 30,og 31 false 32 (.fieldA 2 (tp 4)),og 31 false 33 (.load none (tp 32)),og 31 false 34 (.call 93 [tp 33]),og 31 false 35 (.un .not (tp 34)),oo 36 (.pick (tp 31) (cq true) (tp 35)),mq 37 36,og 37 false 38 (.fieldA 3 (tp 4)),og 37 false 39 (.load none (tp 38)),og 37 false 40 (.bin .neq (tp 39) (ci 0)),og 37 false 41 (.mv (tp 40)),og 41 true 42 (.fieldA 3 (tp 4)),og 41 true 43 (.load none (tp 42)),og 41 true 44 (.call 56 [tp 43]),og 41 true 45 (.un .not (tp 44)),og 37 false 46 (.pick (tp 41) (tp 45) (cq false)),oo 47 (.pick (tp 37) (cq true) (tp 46))] [1,3,4,47] (.cond (tp 47) (sr [oo 2 (.mv (cq false))] [2] .ret) .skip)) (sr [oo 5 (.mv (ci 0))] [1,3,4,5] (.block 2 (.loop (.seq (sr [mq 48 5,mq 49 3,oo 50 (.bin .lss (tp 48) (tp 49))] [1,3,4,5,50] (.cond (tp 50) .skip (.exit 2))) (.seq (.block 3 (.seq (.draw [fi 53 8 1,lq 54 53,mq 55 5,oo 56 (.idxA 4 (tp 54) (tp 55)),oo 57 (.load (some 4) (tp 56)),oo 58 (.load (some 4) (tp 4)),oo 59 (.eqs false [.str,.str,.str,.int] (tp 57) (tp 58))] [0,1,0,7,15,0,63] (.take 0 (.take 1 (.take 2 (.take 3 (.take 4 (.take 5 (.take 6 .done))))))) (some [1,3,4,5,59])) (.cond (tp 59) (sr [oo 2 (.mv (cq false))] [2] .ret) .skip))) (.region [mq 51 5,oo 52 (.bin .add (tp 51) (ci 1)),mq 5 52] (some [1,3,4,5])))))))))) (.region [mq 14 3,oo 15 (.bin .add (tp 14) (ci 1)),mq 3 15] (some [1,3]))))))) (.seq (sr [oo 6 (.mv (ci 0))] [1,6] (.block 4 (.loop (.seq (sr [mq 60 6,fi 61 9 1,lq 62 61,oo 63 (.len (tp 62) false),oo 64 (.bin .lss (tp 60) (tp 63))] [1,6,64] (.cond (tp 64) .skip (.exit 4))) (.seq (.block 5 (.seq (sr [fi 67 9 1,lq 68 67,mq 69 6,oo 70 (.idxA 1 (tp 68) (tp 69)),lq 71 70,oo 72 (.bin .eql (tp 71) (.const (.string ⟨#[]⟩))),mq 73 72,og 73 false 74 (.fieldA 9 (tp 1)),og 73 false 75 (.load none (tp 74)),og 73 false 76 (.mv (tp 6)),og 73 false 77 (.idxA 1 (tp 75) (tp 76)),og 73 false 78 (.load none (tp 77)),og 73 false 79 (.call 91 [tp 78]),og 73 false 80 (.un .not (tp 79)),oo 81 (.pick (tp 73) (cq true) (tp 80))] [1,6,81] (.cond (tp 81) (sr [oo 2 (.mv (cq false))] [2] .ret) .skip)) (sr [oo 7 (.mv (ci 0))] [1,6,7] (.block 6 (.loop (.seq (sr [mq 82 7,mq 83 6,oo 84 (.bin .lss (tp 82) (tp 83))] [1,6,7,84] (.cond (tp 84) .skip (.exit 6))) (.seq (.block 7 (.seq (.draw [fi 87 9 1,lq 88 87,mq 89 7,oo 90 (.idxA 1 (tp 88) (tp 89)),lq 91 90,fi 92 9 1,lq 93 92,mq 94 6,oo 95 (.idxA 1 (tp 93) (tp 94)),lq 96 95,oo 97 (.bin .eql (tp 91) (tp 96))] [0,1,0,7,15,0,32,0,224,480,1023] (.take 0 (.take 1 (.take 2 (.take 3 (.take 4 (.take 5 (.take 6 (.take 7 (.take 8 (.take 9 (.take 10 .done))))))))))) (some [1,6,7,97])) (.cond (tp 97) (sr [oo 2 (.mv (cq false))] [2] .ret) .skip))) (.region [mq 85 7,oo 86 (.bin .add (tp 85) (ci 1)),mq 7 86] (some [1,6,7]))))))))) (.region [mq 65 6,oo 66 (.bin .add (tp 65) (ci 1)),mq 6 66] (some [1,6]))))))) (.seq (sr [oo 8 (.mv (ci 0))] [1,8] (.block 8 (.loop (.seq (sr [mq 98 8,fi 99 10 1,lq 100 99,oo 101 (.len (tp 100) false),oo 102 (.bin .lss (tp 98) (tp 101))] [1,8,102] (.cond (tp 102) .skip (.exit 8))) (.seq (.block 9 (sr [fi 105 10 1,lq 106 105,mq 107 8,oo 108 (.idxA 3 (tp 106) (tp 107)),oo 109 (.load (some 3) (tp 108)),oo 110 (.call 94 [tp 109]),oo 111 (.un .not (tp 110))] [1,8,111] (.cond (tp 111) (sr [oo 2 (.mv (cq false))] [2] .ret) .skip))) (.region [mq 103 8,oo 104 (.bin .add (tp 103) (ci 1)),mq 8 104] (some [1,8]))))))) (sr [fi 112 8 1,lq 113 112,oo 114 (.len (tp 113) false),oo 115 (.bin .leq (tp 114) (ci 4)),mq 116 115,og 116 true 117 (.fieldA 9 (tp 1)),og 116 true 118 (.load none (tp 117)),og 116 true 119 (.len (tp 118) false),og 116 true 120 (.bin .leq (tp 119) (ci 4)),oo 121 (.pick (tp 116) (tp 120) (cq false)),mq 122 121,og 122 true 123 (.fieldA 10 (tp 1)),og 122 true 124 (.load none (tp 123)),og 122 true 125 (.len (tp 124) false),og 122 true 126 (.bin .leq (tp 125) (ci 6)),oo 127 (.pick (tp 122) (tp 126) (cq false)),mq 2 127] [2] .ret)))))
def an_zgo5l : Ann := ann [0,1,2,4,5,6,7,8,10,11,9,3,12,13,15,16,17,18,20,21,19,14,22,23,25,26,24,27] ac_zgo5l
theorem ok_zgo5l : okd Tryz.prog an_zgo5l ac_zgo5l Tryz.f58 := ⟨by kernel_rfl, by kernel_rfl⟩

def ac_zrloc : AC := (sr [oo 1 (.box 32 (tp 0)),oo 2 (.mv (cq false))] [1] (.seq (sr [oo 3 (.mv (ci 0))] [1,3] (.block 0 (.loop (.seq (sr [mq 5 3,fi 6 11 1,lq 7 6,oo 8 (.len (tp 7) false),oo 9 (.bin .lss (tp 5) (tp 8))] [1,3,9] (.cond (tp 9) .skip (.exit 0))) (.seq (.block 1 (sr [fi 12 11 1,lq 13 12,mq 14 3,oo 15 (.idxA 3 (tp 13) (tp 14)),fi 16 0 15,lq 17 16,oo 18 (.call 95 [tp 17]),oo 19 (.un .not (tp 18)),mq 20 19,og 20 false 21 (.fieldA 11 (tp 1)),og 20 false 22 (.load none (tp 21)),og 20 false 23 (.mv (tp 3)),og 20 false 24 (.idxA 3 (tp 22) (tp 23)),og 20 false 25 (.fieldA 1 (tp 24)),og 20 false 26 (.load none (tp 25)),og 20 false 27 (.call 89 [tp 26]),og 20 false 28 (.un .not (tp 27)),oo 29 (.pick (tp 20) (cq true) (tp 28)),mq 30 29,og 30 false 31 (.fieldA 11 (tp 1)),og 30 false 32 (.load none (tp 31)),og 30 false 33 (.mv (tp 3)),og 30 false 34 (.idxA 3 (tp 32) (tp 33)),og 30 false 35 (.fieldA 2 (tp 34)),og 30 false 36 (.load none (tp 35)),og 30 false 37 (.bin .neq (tp 36) (.const (.string ⟨#[]⟩))),oo 38 (.pick (tp 30) (cq true) (tp 37))] [1,3,38] (.cond (tp 38) (sr [oo 2 (.mv (cq false))] [2] .ret) .skip))) (.region [mq 10 3,oo 11 (.bin .add (tp 10) (ci 1)),mq 3 11] (some [1,3]))))))) (.seq (sr [oo 4 (.mv (ci 0))] [1,4] (.block 2 (.loop (.seq (sr [mq 39 4,fi 40 12 1,lq 41 40,oo 42 (.len (tp 41) false),oo 43 (.bin .lss (tp 39) (tp 42))] [1,4,43] (.cond (tp 43) .skip (.exit 2))) (.seq (.block 3 (sr [fi 46 12 1,lq 47 46,mq 48 4,oo 49 (.idxA 3 (tp 47) (tp 48)),fi 50 0 49,lq 51 50,oo 52 (.call 95 [tp 51]),oo 53 (.un .not (tp 52)),mq 54 53,og 54 false 55 (.fieldA 12 (tp 1)),og 54 false 56 (.load none (tp 55)),og 54 false 57 (.mv (tp 4)),og 54 false 58 (.idxA 3 (tp 56) (tp 57)),og 54 false 59 (.fieldA 1 (tp 58)),og 54 false 60 (.load none (tp 59)),og 54 false 61 (.bin .neq (tp 60) (.const (.string ⟨#[]⟩))),oo 62 (.pick (tp 54) (cq true) (tp 61)),mq 63 62,og 63 false 64 (.fieldA 12 (tp 1)),og 63 false 65 (.load none (tp 64)),og 63 false 66 (.mv (tp 4)),og 63 false 67 (.idxA 3 (tp 65) (tp 66)),og 63 false 68 (.fieldA 2 (tp 67)),og 63 false 69 (.load none (tp 68)),og 63 false 70 (.bin .neq (tp 69) (.const (.string ⟨#[]⟩))),og 63 false 71 (.mv (tp 70)),og 71 true 72 (.fieldA 12 (tp 1)),og 71 true 73 (.load none (tp 72)),og 71 true 74 (.mv (tp 4)),og 71 true 75 (.idxA 3 (tp 73) (tp 74)),og 71 true 76 (.fieldA 2 (tp 75)),og 71 true 77 (.load none (tp 76)),og 71 true 78 (.call 88 [tp 77]),og 71 true 79 (.un .not (tp 78)),og 63 false 80 (.pick (tp 71) (tp 79) (cq false)),oo 81 (.pick (tp 63) (cq true) (tp 80))] [1,4,81] (.cond (tp 81) (sr [oo 2 (.mv (cq false))] [2] .ret) .skip))) (.region [mq 44 4,oo 45 (.bin .add (tp 44) (ci 1)),mq 4 45] (some [1,4]))))))) (sr [fi 82 11 1,lq 83 82,oo 84 (.len (tp 83) false),oo 85 (.bin .leq (ci 1) (tp 84)),mq 86 85,og 86 true 87 (.fieldA 11 (tp 1)),og 86 true 88 (.load none (tp 87)),og 86 true 89 (.len (tp 88) false),og 86 true 90 (.bin .leq (tp 89) (ci 4)),oo 91 (.pick (tp 86) (tp 90) (cq false)),mq 92 91,og 92 true 93 (.fieldA 12 (tp 1)),og 92 true 94 (.load none (tp 93)),og 92 true 95 (.len (tp 94) false),og 92 true 96 (.bin .leq (ci 1) (tp 95)),oo 97 (.pick (tp 92) (tp 96) (cq false)),mq 98 97,og 98 true 99 (.fieldA 12 (tp 1)),og 98 true 100 (.load none (tp 99)),og 98 true 101 (.len (tp 100) false),og 98 true 102 (.bin .leq (tp 101) (ci 4)),oo 103 (.pick (tp 98) (tp 102) (cq false)),mq 2 103] [2] .ret))))
def an_zrloc : Ann := ann [0,1,2,4,5,3,6,7,9,10,8,11] ac_zrloc
theorem ok_zrloc : okd Tryz.prog an_zrloc ac_zrloc Tryz.f59 := ⟨by kernel_rfl, by kernel_rfl⟩

def ac_zk76r : AC := (sr [oo 4 (.mv (cq false))] [0,1] (.seq (sr [mq 6 0,oo 7 (.len (tp 6) false),mq 8 1,oo 9 (.len (tp 8) false),oo 10 (.bin .neq (tp 7) (tp 9))] [0,1,10] (.cond (tp 10) (sr [oo 4 (.mv (cq false))] [4] .ret) .skip)) (.seq (sr [oo 5 (.mv (ci 0))] [0,1,5] (.block 0 (.loop (.seq (sr [mq 11 5,mq 12 0,oo 13 (.len (tp 12) false),oo 14 (.bin .lss (tp 11) (tp 13))] [0,1,5,14] (.cond (tp 14) .skip (.exit 0))) (.seq (.block 1 (.seq (.draw [mq 17 0,mq 18 5,oo 19 (.idxA 2 (tp 17) (tp 18)),oo 20 (.load (some 2) (tp 19)),mq 21 1,mq 22 5,oo 23 (.idxA 2 (tp 21) (tp 22)),oo 24 (.load (some 2) (tp 23)),oo 25 (.eqs true [.str,.str] (tp 20) (tp 24))] [0,0,3,7,0,0,48,112,255] (.take 0 (.take 1 (.take 2 (.take 3 (.take 4 (.take 5 (.take 6 (.take 7 (.take 8 .done))))))))) (some [0,1,5,25])) (.cond (tp 25) (sr [oo 4 (.mv (cq false))] [4] .ret) .skip))) (.region [mq 15 5,oo 16 (.bin .add (tp 15) (ci 1)),mq 5 16] (some [0,1,5]))))))) (sr [oo 4 (.mv (cq true))] [4] .ret))))
def an_zk76r : Ann := ann [0,1,2,3,4,6,7,5,8] ac_zk76r
theorem ok_zk76r : okd Tryz.prog an_zk76r ac_zk76r Tryz.f65 := ⟨by kernel_rfl, by kernel_rfl⟩

def ac_zjxe8 : AC := (sr [oo 4 (.mv (cq false))] [0,1] (.seq (sr [mq 6 0,oo 7 (.len (tp 6) false),mq 8 1,oo 9 (.len (tp 8) false),oo 10 (.bin .neq (tp 7) (tp 9))] [0,1,10] (.cond (tp 10) (sr [oo 4 (.mv (cq false))] [4] .ret) .skip)) (.seq (sr [oo 5 (.mv (ci 0))] [0,1,5] (.block 0 (.loop (.seq (sr [mq 11 5,mq 12 0,oo 13 (.len (tp 12) false),oo 14 (.bin .lss (tp 11) (tp 13))] [0,1,5,14] (.cond (tp 14) .skip (.exit 0))) (.seq (.block 1 (.seq (.draw [mq 17 0,mq 18 5,oo 19 (.idxA 1 (tp 17) (tp 18)),lq 20 19,mq 21 1,mq 22 5,oo 23 (.idxA 1 (tp 21) (tp 22)),lq 24 23,oo 25 (.bin .neq (tp 20) (tp 24))] [0,0,3,7,0,0,48,112,255] (.take 0 (.take 1 (.take 2 (.take 3 (.take 4 (.take 5 (.take 6 (.take 7 (.take 8 .done))))))))) (some [0,1,5,25])) (.cond (tp 25) (sr [oo 4 (.mv (cq false))] [4] .ret) .skip))) (.region [mq 15 5,oo 16 (.bin .add (tp 15) (ci 1)),mq 5 16] (some [0,1,5]))))))) (sr [oo 4 (.mv (cq true))] [4] .ret))))
def an_zjxe8 : Ann := ann [0,1,2,3,4,6,7,5,8] ac_zjxe8
theorem ok_zjxe8 : okd Tryz.prog an_zjxe8 ac_zjxe8 Tryz.f66 := ⟨by kernel_rfl, by kernel_rfl⟩

def ac_zgrh4 : AC := (sr [oo 4 (.mv (cq false))] [0,1] (.seq (sr [mq 6 0,oo 7 (.len (tp 6) false),mq 8 1,oo 9 (.len (tp 8) false),oo 10 (.bin .neq (tp 7) (tp 9))] [0,1,10] (.cond (tp 10) (sr [oo 4 (.mv (cq false))] [4] .ret) .skip)) (.seq (sr [oo 5 (.mv (ci 0))] [0,1,5] (.block 0 (.loop (.seq (sr [mq 11 5,mq 12 0,oo 13 (.len (tp 12) false),oo 14 (.bin .lss (tp 11) (tp 13))] [0,1,5,14] (.cond (tp 14) .skip (.exit 0))) (.seq (.block 1 (.seq (.draw [mq 17 0,mq 18 5,oo 19 (.idxA 3 (tp 17) (tp 18)),fi 20 0 19,lq 21 20,mq 22 1,mq 23 5,oo 24 (.idxA 3 (tp 22) (tp 23)),fi 25 0 24,lq 26 25,oo 27 (.bin .neq (tp 21) (tp 26)),mq 28 27,og 28 false 29 (.mv (tp 0)),og 28 false 30 (.mv (tp 5)),og 28 false 31 (.idxA 3 (tp 29) (tp 30)),og 28 false 32 (.fieldA 1 (tp 31)),og 28 false 33 (.load none (tp 32)),og 28 false 34 (.mv (tp 1)),og 28 false 35 (.mv (tp 5)),og 28 false 36 (.idxA 3 (tp 34) (tp 35)),og 28 false 37 (.fieldA 1 (tp 36)),og 28 false 38 (.load none (tp 37)),og 28 false 39 (.bin .neq (tp 33) (tp 38)),oo 40 (.pick (tp 28) (cq true) (tp 39)),mq 41 40,og 41 false 42 (.mv (tp 0)),og 41 false 43 (.mv (tp 5)),og 41 false 44 (.idxA 3 (tp 42) (tp 43)),og 41 false 45 (.fieldA 2 (tp 44)),og 41 false 46 (.load none (tp 45)),og 41 false 47 (.mv (tp 1)),og 41 false 48 (.mv (tp 5)),og 41 false 49 (.idxA 3 (tp 47) (tp 48)),og 41 false 50 (.fieldA 2 (tp 49)),og 41 false 51 (.load none (tp 50)),og 41 false 52 (.call 66 [tp 46,tp 51]),og 41 false 53 (.un .not (tp 52)),oo 54 (.pick (tp 41) (cq true) (tp 53))] [0,0,3,7,15,0,0,96,224,480,1023,2047,4095,4095,16383,32767,65535,4095,4095,397311,921599,1970175,4194303,8388607,16777215,33554431,33554431,134217727,268435455,536870911,33554431,33554431,3254779903,7549747199,16139681791,34359738367,68719476735,137438953471] (.take 0 (.take 1 (.take 2 (.take 3 (.take 4 (.take 5 (.take 6 (.take 7 (.take 8 (.take 9 (.take 10 (.take 11 (.take 12 (.take 13 (.take 14 (.take 15 (.take 16 (.take 17 (.take 18 (.take 19 (.take 20 (.take 21 (.take 22 (.take 23 (.take 24 (.take 25 (.take 26 (.take 27 (.take 28 (.take 29 (.take 30 (.take 31 (.take 32 (.take 33 (.take 34 (.alts (.cons 35 true (.take 36 (.take 37 .done)) .nil))))))))))))))))))))))))))))))))))))) (some [0,1,5,54])) (.cond (tp 54) (sr [oo 4 (.mv (cq false))] [4] .ret) .skip))) (.region [mq 15 5,oo 16 (.bin .add (tp 15) (ci 1)),mq 5 16] (some [0,1,5]))))))) (sr [oo 4 (.mv (cq true))] [4] .ret))))
def an_zgrh4 : Ann := ann [0,1,2,3,4,6,7,5,8] ac_zgrh4
theorem ok_zgrh4 : okd Tryz.prog an_zgrh4 ac_zgrh4 Tryz.f67 := ⟨by kernel_rfl, by kernel_rfl⟩

def ac_zt6t3 : AC := (sr [oo 2 (.box 66 (tp 0)),oo 3 (.box 66 (tp 1)),oo 4 (.mv (cq false))] [2,3] (.seq (sr [fi 8 0 2,lq 9 8,oo 10 (.len (tp 9) false),fi 11 0 3,lq 12 11,oo 13 (.len (tp 12) false),oo 14 (.bin .neq (tp 10) (tp 13)),mq 15 14,og 15 false 16 (.fieldA 1 (tp 2)),og 15 false 17 (.load none (tp 16)),og 15 false 18 (.len (tp 17) false),og 15 false 19 (.fieldA 1 (tp 3)),og 15 false 20 (.load none (tp 19)),og 15 false 21 (.len (tp 20) false),og 15 false 22 (.bin .neq (tp 18) (tp 21)),oo 23 (.pick (tp 15) (cq true) (tp 22)),mq 24 23,og 24 false 25 (.fieldA 2 (tp 2)),og 24 false 26 (.load none (tp 25)),og 24 false 27 (.len (tp 26) false),og 24 false 28 (.fieldA 2 (tp 3)),og 24 false 29 (.load none (tp 28)),og 24 false 30 (.len (tp 29) false),og 24 false 31 (.bin .neq (tp 27) (tp 30)),oo 32 (.pick (tp 24) (cq true) (tp 31))] [2,3,32] (.cond (tp 32) (sr [oo 4 (.mv (cq false))] [4] .ret) .skip)) (.seq (sr [oo 5 (.mv (ci 0))] [2,3,5] (.block 0 (.loop (.seq (sr [mq 33 5,fi 34 0 2,lq 35 34,oo 36 (.len (tp 35) false),oo 37 (.bin .lss (tp 33) (tp 36))] [2,3,5,37] (.cond (tp 37) .skip (.exit 0))) (.seq (.block 1 (.seq (.draw [fi 40 0 2,lq 41 40,mq 42 5,oo 43 (.idxA 5 (tp 41) (tp 42)),oo 44 (.load (some 5) (tp 43)),fi 45 0 3,lq 46 45,mq 47 5,oo 48 (.idxA 5 (tp 46) (tp 47)),oo 49 (.load (some 5) (tp 48)),oo 50 (.call 98 [tp 44,tp 49]),oo 51 (.un .not (tp 50))] [0,1,0,7,15,0,32,0,224,480,1023,2047] (.take 0 (.take 1 (.take 2 (.take 3 (.take 4 (.take 5 (.take 6 (.take 7 (.take 8 (.take 9 (.alts (.cons 10 true (.take 11 .done) .nil)))))))))))) (some [2,3,5,51])) (.cond (tp 51) (sr [oo 4 (.mv (cq false))] [4] .ret) .skip))) (.region [mq 38 5,oo 39 (.bin .add (tp 38) (ci 1)),mq 5 39] (some [2,3,5]))))))) (.seq (sr [oo 6 (.mv (ci 0))] [2,3,6] (.block 2 (.loop (.seq (sr [mq 52 6,fi 53 1 2,lq 54 53,oo 55 (.len (tp 54) false),oo 56 (.bin .lss (tp 52) (tp 55))] [2,3,6,56] (.cond (tp 56) .skip (.exit 2))) (.seq (.block 3 (.seq (.draw [fi 59 1 2,lq 60 59,mq 61 6,oo 62 (.idxA 8 (tp 60) (tp 61)),oo 63 (.load (some 8) (tp 62)),fi 64 1 3,lq 65 64,mq 66 6,oo 67 (.idxA 8 (tp 65) (tp 66)),oo 68 (.load (some 8) (tp 67)),oo 69 (.eqs true [.int,.str,.str,.str,.int,.str,.bool,.int] (tp 63) (tp 68))] [0,1,0,7,15,0,32,0,224,480,1023] (.take 0 (.take 1 (.take 2 (.take 3 (.take 4 (.take 5 (.take 6 (.take 7 (.take 8 (.take 9 (.take 10 .done))))))))))) (some [2,3,6,69])) (.cond (tp 69) (sr [oo 4 (.mv (cq false))] [4] .ret) .skip))) (.region [mq 57 6,oo 58 (.bin .add (tp 57) (ci 1)),mq 6 58] (some [2,3,6]))))))) (.seq (sr [oo 7 (.mv (ci 0))] [2,3,7] (.block 4 (.loop (.seq (sr [mq 70 7,fi 71 2 2,lq 72 71,oo 73 (.len (tp 72) false),oo 74 (.bin .lss (tp 70) (tp 73))] [2,3,7,74] (.cond (tp 74) .skip (.exit 4))) (.seq (.block 5 (.seq (.draw [fi 77 2 2,lq 78 77,mq 79 7,oo 80 (.idxA 5 (tp 78) (tp 79)),oo 81 (.load (some 5) (tp 80)),fi 82 2 3,lq 83 82,mq 84 7,oo 85 (.idxA 5 (tp 83) (tp 84)),oo 86 (.load (some 5) (tp 85)),oo 87 (.eqs true [.int,.str,.str,.int,.int] (tp 81) (tp 86))] [0,1,0,7,15,0,32,0,224,480,1023] (.take 0 (.take 1 (.take 2 (.take 3 (.take 4 (.take 5 (.take 6 (.take 7 (.take 8 (.take 9 (.take 10 .done))))))))))) (some [2,3,7,87])) (.cond (tp 87) (sr [oo 4 (.mv (cq false))] [4] .ret) .skip))) (.region [mq 75 7,oo 76 (.bin .add (tp 75) (ci 1)),mq 7 76] (some [2,3,7]))))))) (sr [oo 4 (.mv (cq true))] [4] .ret))))))
def an_zt6t3 : Ann := ann [0,1,2,3,4,6,7,5,8,9,11,12,10,13,14,16,17,15,18] ac_zt6t3
theorem ok_zt6t3 : okd Tryz.prog an_zt6t3 ac_zt6t3 Tryz.f68 := ⟨by kernel_rfl, by kernel_rfl⟩

def ac_zvp8y : AC := (sr [oo 2 (.mv (cq false))] [0] (.seq (sr [mq 5 0,oo 6 (.len (tp 5) true),oo 7 (.bin .gtr (tp 6) (ci 60))] [0,7] (.cond (tp 7) (sr [oo 2 (.mv (cq false))] [2] .ret) .skip)) (sr [mq 8 0,oo 9 (.call 138 [tp 8,.const (.int .u8 46)]),mq 3 9] [3] (.seq (sr [oo 4 (.mv (ci 0))] [3,4] (.block 0 (.loop (.seq (sr [mq 10 4,mq 11 3,oo 12 (.len (tp 11) false),oo 13 (.bin .lss (tp 10) (tp 12))] [3,4,13] (.cond (tp 13) .skip (.exit 0))) (.seq (.block 1 (sr [mq 16 3,mq 17 4,oo 18 (.idxA 1 (tp 16) (tp 17)),lq 19 18,oo 20 (.call 89 [tp 19]),oo 21 (.un .not (tp 20))] [3,4,21] (.cond (tp 21) (sr [oo 2 (.mv (cq false))] [2] .ret) .skip))) (.region [mq 14 4,oo 15 (.bin .add (tp 14) (ci 1)),mq 4 15] (some [3,4]))))))) (sr [oo 2 (.mv (cq true))] [2] .ret)))))
def an_zvp8y : Ann := ann [0,1,2,3,4,5,7,8,6,9] ac_zvp8y
theorem ok_zvp8y : okd Tryz.prog an_zvp8y ac_zvp8y Tryz.f88 := ⟨by kernel_rfl, by kernel_rfl⟩

def ac_z4drv : AC := (sr [oo 2 (.mv (cq false))] [0] (.seq (sr [oo 3 (.mv (ci 0))] [0,3] (.block 0 (.loop (.seq (sr [mq 6 3,mq 7 0,oo 8 (.len (tp 7) true),oo 9 (.bin .lss (tp 6) (tp 8))] [0,3,9] (.cond (tp 9) .skip (.exit 0))) (.seq (.block 1 (sr [mq 12 0,mq 13 3,oo 14 (.idxS (tp 12) (tp 13)),mq 4 14] [0,3,4] (sr [mq 15 3,oo 16 (.bin .eql (tp 15) (ci 0)),mq 17 16,og 17 false 18 (.mv (tp 3)),og 17 false 19 (.mv (tp 0)),og 17 false 20 (.len (tp 19) true),og 17 false 21 (.bin .sub (tp 20) (ci 1)),og 17 false 22 (.bin .eql (tp 18) (tp 21)),oo 23 (.pick (tp 17) (cq true) (tp 22)),mq 5 23] [0,3,4,5] (sr [mq 24 4,oo 25 (.bin .leq (.const (.int .u8 97)) (tp 24)),mq 26 25,og 26 true 27 (.mv (tp 4)),og 26 true 28 (.bin .leq (tp 27) (.const (.int .u8 122))),oo 29 (.pick (tp 26) (tp 28) (cq false)),mq 30 29,og 30 false 31 (.mv (tp 4)),og 30 false 32 (.bin .leq (.const (.int .u8 48)) (tp 31)),og 30 false 33 (.mv (tp 32)),og 33 true 34 (.mv (tp 4)),og 33 true 35 (.bin .leq (tp 34) (.const (.int .u8 57))),og 30 false 36 (.pick (tp 33) (tp 35) (cq false)),oo 37 (.pick (tp 30) (cq true) (tp 36)),mq 38 37,og 38 false 39 (.mv (tp 4)),og 38 false 40 (.bin .eql (tp 39) (.const (.int .u8 45))),og 38 false 41 (.mv (tp 40)),og 41 true 42 (.mv (tp 5)),og 41 true 43 (.un .not (tp 42)),og 38 false 44 (.pick (tp 41) (tp 43) (cq false)),oo 45 (.pick (tp 38) (cq true) (tp 44)),oo 46 (.un .not (tp 45))] [0,3,46] (.cond (tp 46) (sr [oo 2 (.mv (cq false))] [2] .ret) .skip))))) (.region [mq 10 3,oo 11 (.bin .add (tp 10) (ci 1)),mq 3 11] (some [0,3]))))))) (sr [mq 47 0,oo 48 (.len (tp 47) true),oo 49 (.bin .leq (ci 1) (tp 48)),mq 50 49,og 50 true 51 (.mv (tp 0)),og 50 true 52 (.len (tp 51) true),og 50 true 53 (.bin .leq (tp 52) (ci 20)),oo 54 (.pick (tp 50) (tp 53) (cq false)),mq 2 54] [2] .ret)))
def an_z4drv : Ann := ann [0,1,2,4,5,6,7,3,8] ac_z4drv
theorem ok_z4drv : okd Tryz.prog an_z4drv ac_z4drv Tryz.f89 := ⟨by kernel_rfl, by kernel_rfl⟩

def ac_z1s4w : AC := (sr [oo 2 (.mv (cq false))] [0] (sr [mq 3 0,oo 4 (.bin .eql (tp 3) (.const (.string ⟨#[]⟩))),mq 5 4,og 5 false 6 (.mv (tp 0)),og 5 false 7 (.call 89 [tp 6]),oo 8 (.pick (tp 5) (cq true) (tp 7)),mq 2 8] [2] .ret))
def an_z1s4w : Ann := ann (List.range 2) ac_z1s4w
theorem ok_z1s4w : okd Tryz.prog an_z1s4w ac_z1s4w Tryz.f90 := ⟨by kernel_rfl, by kernel_rfl⟩

def ac_z8jqh : AC := (sr [oo 2 (.mv (cq false))] [0] (sr [mq 6 0,oo 7 (.call 139 [tp 6]),mq 5 7,oo 8 (.extract (tp 5) 0),oo 9 (.extract (tp 5) 1),mq 3 8,mq 4 9] [0,3] (sr [mq 10 0,oo 11 (.bin .eql (tp 10) (.const (.string ⟨#[]⟩))),mq 12 11,og 12 false 13 (.mv (tp 0)),og 12 false 14 (.len (tp 13) true),og 12 false 15 (.bin .leq (tp 14) (ci 60)),og 12 false 16 (.mv (tp 15)),og 16 true 17 (.mv (tp 3)),og 16 true 18 (.call 88 [tp 17]),og 12 false 19 (.pick (tp 16) (tp 18) (cq false)),oo 20 (.pick (tp 12) (cq true) (tp 19)),mq 2 20] [2] .ret)))
def an_z8jqh : Ann := ann (List.range 3) ac_z8jqh
theorem ok_z8jqh : okd Tryz.prog an_z8jqh ac_z8jqh Tryz.f91 := ⟨by kernel_rfl, by kernel_rfl⟩

def ac_zc60e : AC := (sr [oo 2 (.mv (cq false))] [0] (.seq (sr [oo 3 (.mv (ci 0))] [0,3] (.block 0 (.loop (.seq (sr [mq 4 3,mq 5 0,oo 6 (.len (tp 5) false),oo 7 (.bin .lss (tp 4) (tp 6))] [0,3,7] (.cond (tp 7) .skip (.exit 0))) (.seq (.block 1 (sr [mq 10 0,mq 11 3,oo 12 (.idxA 3 (tp 10) (tp 11)),oo 13 (.load (some 3) (tp 12)),oo 14 (.call 140 [tp 13]),oo 15 (.un .not (tp 14))] [0,3,15] (.cond (tp 15) (sr [oo 2 (.mv (cq false))] [2] .ret) .skip))) (.region [mq 8 3,oo 9 (.bin .add (tp 8) (ci 1)),mq 3 9] (some [0,3]))))))) (sr [mq 16 0,oo 17 (.len (tp 16) false),oo 18 (.bin .leq (tp 17) (ci 8)),mq 2 18] [2] .ret)))
def an_zc60e : Ann := ann [0,1,2,4,5,3,6] ac_zc60e
theorem ok_zc60e : okd Tryz.prog an_zc60e ac_zc60e Tryz.f92 := ⟨by kernel_rfl, by kernel_rfl⟩

def ac_z84ie : AC := (sr [oo 2 (.mv (cq false))] [0] (sr [mq 3 0,oo 4 (.bin .eql (tp 3) (.const (.string ⟨#[]⟩))),mq 5 4,og 5 false 6 (.mv (tp 0)),og 5 false 7 (.call 89 [tp 6]),oo 8 (.pick (tp 5) (cq true) (tp 7)),mq 2 8] [2] .ret))
def an_z84ie : Ann := ann (List.range 2) ac_z84ie
theorem ok_z84ie : okd Tryz.prog an_z84ie ac_z84ie Tryz.f93 := ⟨by kernel_rfl, by kernel_rfl⟩

def ac_zn5zf : AC := (sr [oo 1 (.box 66 (tp 0)),oo 2 (.mv (cq false))] [1] (.seq (sr [fi 6 0 1,lq 7 6,oo 8 (.len (tp 7) false),oo 9 (.bin .gtr (tp 8) (ci 4)),mq 10 9,og 10 false 11 (.fieldA 2 (tp 1)),og 10 false 12 (.load none (tp 11)),og 10 false 13 (.len (tp 12) false),og 10 false 14 (.bin .gtr (tp 13) (ci 4)),oo 15 (.pick (tp 10) (cq true) (tp 14)),mq 16 15,og 16 false 17 (.fieldA 1 (tp 1)),og 16 false 18 (.load none (tp 17)),og 16 false 19 (.call 141 [tp 18]),og 16 false 20 (.un .not (tp 19)),oo 21 (.pick (tp 16) (cq true) (tp 20))] [1,21] (.cond (tp 21) (sr [oo 2 (.mv (cq false))] [2] .ret) .skip)) (.seq (sr [oo 3 (.mv (ci 0))] [1,3] (.block 0 (.loop (.seq (sr [mq 22 3,fi 23 0 1,lq 24 23,oo 25 (.len (tp 24) false),oo 26 (.bin .lss (tp 22) (tp 25))] [1,3,26] (.cond (tp 26) .skip (.exit 0))) (.seq (.block 1 (sr [fi 29 0 1,lq 30 29,mq 31 3,oo 32 (.idxA 5 (tp 30) (tp 31)),oo 33 (.load (some 5) (tp 32)),oo 34 (.call 142 [tp 33]),oo 35 (.un .not (tp 34))] [1,3,35] (.cond (tp 35) (sr [oo 2 (.mv (cq false))] [2] .ret) .skip))) (.region [mq 27 3,oo 28 (.bin .add (tp 27) (ci 1)),mq 3 28] (some [1,3]))))))) (.seq (sr [oo 4 (.mv (ci 0))] [1,4] (.block 2 (.loop (.seq (sr [mq 36 4,fi 37 2 1,lq 38 37,oo 39 (.len (tp 38) false),oo 40 (.bin .lss (tp 36) (tp 39))] [1,4,40] (.cond (tp 40) .skip (.exit 2))) (.seq (.block 3 (sr [fi 43 2 1,lq 44 43,mq 45 4,oo 46 (.idxA 5 (tp 44) (tp 45)),oo 47 (.load (some 5) (tp 46)),oo 5 (.alloc 68 [.pd (.raw (.int .i64 0)),.pd (.raw (.string ⟨#[]⟩)),.pd (.raw (.string ⟨#[]⟩)),.pd (.raw (.int .i64 0)),.pd (.raw (.int .i64 0))]),.mk none none (.store 5 (tp 5) (tp 47))] [1,4,5] (sr [fi 48 0 5,fi 49 0 48,lq 50 49,oo 51 (.call 95 [tp 50]),oo 52 (.un .not (tp 51)),mq 53 52,og 53 false 54 (.fieldA 0 (tp 5)),og 53 false 55 (.fieldA 1 (tp 54)),og 53 false 56 (.load none (tp 55)),og 53 false 57 (.call 93 [tp 56]),og 53 false 58 (.un .not (tp 57)),oo 59 (.pick (tp 53) (cq true) (tp 58)),mq 60 59,og 60 false 61 (.fieldA 0 (tp 5)),og 60 false 62 (.fieldA 2 (tp 61)),og 60 false 63 (.load none (tp 62)),og 60 false 64 (.call 88 [tp 63]),og 60 false 65 (.un .not (tp 64)),oo 66 (.pick (tp 60) (cq true) (tp 65)),mq 67 66,og 67 false 68 (.fieldA 3 (tp 5)),og 67 false 69 (.load none (tp 68)),og 67 false 70 (.bin .neq (tp 69) (ci 0)),og 67 false 71 (.mv (tp 70)),og 71 true 72 (.fieldA 3 (tp 5)),og 71 true 73 (.load none (tp 72)),og 71 true 74 (.call 56 [tp 73]),og 71 true 75 (.un .not (tp 74)),og 67 false 76 (.pick (tp 71) (tp 75) (cq false)),oo 77 (.pick (tp 67) (cq true) (tp 76)),mq 78 77,og 78 false 79 (.fieldA 4 (tp 5)),og 78 false 80 (.load none (tp 79)),og 78 false 81 (.bin .lss (tp 80) (ci 0)),oo 82 (.pick (tp 78) (cq true) (tp 81)),mq 83 82,og 83 false 84 (.fieldA 4 (tp 5)),og 83 false 85 (.load none (tp 84)),og 83 false 86 (.bin .gtr (tp 85) (ci 1000)),oo 87 (.pick (tp 83) (cq true) (tp 86))] [1,4,87] (.cond (tp 87) (sr [oo 2 (.mv (cq false))] [2] .ret) .skip)))) (.region [mq 41 4,oo 42 (.bin .add (tp 41) (ci 1)),mq 4 42] (some [1,4]))))))) (sr [oo 2 (.mv (cq true))] [2] .ret)))))
def an_zn5zf : Ann := ann [0,1,2,3,4,6,7,5,8,9,11,12,13,10,14] ac_zn5zf
theorem ok_zn5zf : okd Tryz.prog an_zn5zf ac_zn5zf Tryz.f94 := ⟨by kernel_rfl, by kernel_rfl⟩

def ac_zotge : AC := (sr [oo 2 (.mv (cq false))] [0] (sr [mq 3 0,oo 4 (.bin .leq (ci 1) (tp 3)),mq 5 4,og 5 true 6 (.mv (tp 0)),og 5 true 7 (.bin .leq (tp 6) (ci 7)),oo 8 (.pick (tp 5) (tp 7) (cq false)),mq 2 8] [2] .ret))
def an_zotge : Ann := ann (List.range 2) ac_zotge
theorem ok_zotge : okd Tryz.prog an_zotge ac_zotge Tryz.f95 := ⟨by kernel_rfl, by kernel_rfl⟩

def ac_zlug8 : AC := (sr [oo 2 (.box 86 (tp 0)),oo 3 (.box 86 (tp 1)),oo 4 (.mv (cq false))] [2,3] (sr [fi 5 0 2,oo 6 (.load (some 2) (tp 5)),fi 7 0 3,oo 8 (.load (some 2) (tp 7)),oo 9 (.eqs false [.int,.str] (tp 6) (tp 8)),mq 10 9,og 10 true 11 (.fieldA 2 (tp 2)),og 10 true 12 (.load none (tp 11)),og 10 true 13 (.fieldA 2 (tp 3)),og 10 true 14 (.load none (tp 13)),og 10 true 15 (.bin .eql (tp 12) (tp 14)),oo 16 (.pick (tp 10) (tp 15) (cq false)),mq 17 16,og 17 true 18 (.fieldA 3 (tp 2)),og 17 true 19 (.load none (tp 18)),og 17 true 20 (.fieldA 3 (tp 3)),og 17 true 21 (.load none (tp 20)),og 17 true 22 (.call 65 [tp 19,tp 21]),oo 23 (.pick (tp 17) (tp 22) (cq false)),mq 24 23,og 24 true 25 (.fieldA 4 (tp 2)),og 24 true 26 (.load none (tp 25)),og 24 true 27 (.fieldA 4 (tp 3)),og 24 true 28 (.load none (tp 27)),og 24 true 29 (.call 65 [tp 26,tp 28]),oo 30 (.pick (tp 24) (tp 29) (cq false)),mq 4 30] [4] .ret))
def an_zlug8 : Ann := ann (List.range 2) ac_zlug8
theorem ok_zlug8 : okd Tryz.prog an_zlug8 ac_zlug8 Tryz.f98 := ⟨by kernel_rfl, by kernel_rfl⟩

def ac_zwnk2 : AC := (sr [oo 4 (.mv (.const (.slice none 0 0)))] [0,1] (sr [oo 7 (.bslice 9 1 [.const (.string ⟨#[]⟩)]),mq 5 7] [0,1,5] (.seq (sr [oo 6 (.mv (ci 0))] [0,1,5,6] (.block 0 (.loop (.seq (sr [mq 8 6,mq 9 0,oo 10 (.len (tp 9) true),oo 11 (.bin .lss (tp 8) (tp 10))] [0,1,5,6,11] (.cond (tp 11) .skip (.exit 0))) (.seq (.block 1 (sr [mq 14 0,mq 15 6,oo 16 (.idxS (tp 14) (tp 15)),mq 17 1,oo 18 (.bin .eql (tp 16) (tp 17))] [0,1,5,6,18] (.cond (tp 18) (.region [mq 19 5,oo 20 (.bslice 9 1 [.const (.string ⟨#[]⟩)]),oo 21 (.append 9 1 16 (tp 19) (tp 20)),mq 5 21] (some [0,1,5,6])) (.draw [mq 22 5,mq 23 5,oo 24 (.len (tp 23) false),oo 25 (.bin .sub (tp 24) (ci 1)),oo 26 (.idxA 1 (tp 22) (tp 25)),lq 27 26,mq 28 0,mq 29 6,mq 30 6,oo 31 (.bin .add (tp 30) (ci 1)),oo 32 (.slcS (tp 28) (some (tp 29)) (some (tp 31))),oo 33 (.bin .add (tp 27) (tp 32)),oo 34 (.idxA 1 (tp 22) (tp 25)),.mk none none (.store 1 (tp 34) (tp 33))] [0,0,2,6,15,31,0,0,0,256,960,2047,4095,8191] (.take 0 (.take 1 (.take 2 (.take 3 (.take 4 (.take 5 (.take 6 (.take 7 (.take 8 (.take 9 (.take 10 (.take 11 (.take 12 (.alts (.cons 13 true .done .nil))))))))))))))) (some [0,1,5,6]))))) (.region [mq 12 6,oo 13 (.bin .add (tp 12) (ci 1)),mq 6 13] (some [0,1,5,6]))))))) (sr [mq 35 5,mq 4 35] [4] .ret))))
def an_zwnk2 : Ann := ann [0,1,2,3,5,4,7,6,8] ac_zwnk2
theorem ok_zwnk2 : okd Tryz.prog an_zwnk2 ac_zwnk2 Tryz.f138 := ⟨by kernel_rfl, by kernel_rfl⟩

def ac_zsoo6 : AC := (sr [oo 2 (.mv (.const (.string ⟨#[]⟩))),oo 3 (.mv (cq false))] [0] (.seq (sr [mq 4 0,oo 5 (.len (tp 4) true),oo 6 (.bin .geq (tp 5) (ci 2)),mq 7 6,og 7 true 8 (.mv (tp 0)),og 7 true 9 (.idxS (tp 8) (ci 0)),og 7 true 10 (.bin .eql (tp 9) (.const (.int .u8 42))),oo 11 (.pick (tp 7) (tp 10) (cq false)),mq 12 11,og 12 true 13 (.mv (tp 0)),og 12 true 14 (.idxS (tp 13) (ci 1)),og 12 true 15 (.bin .eql (tp 14) (.const (.int .u8 46))),oo 16 (.pick (tp 12) (tp 15) (cq false))] [0,16] (.cond (tp 16) (sr [mq 17 0,oo 18 (.slcS (tp 17) (some (ci 2)) none),mq 2 18,oo 3 (.mv (cq true))] [2,3] .ret) .skip)) (sr [mq 19 0,mq 2 19,oo 3 (.mv (cq false))] [2,3] .ret)))
def an_zsoo6 : Ann := ann (List.range 4) ac_zsoo6
theorem ok_zsoo6 : okd Tryz.prog an_zsoo6 ac_zsoo6 Tryz.f139 := ⟨by kernel_rfl, by kernel_rfl⟩

def ac_zqap2 : AC := (sr [oo 1 (.box 124 (tp 0)),oo 2 (.mv (cq false))] [1] (.seq (sr [oo 3 (.mv (ci 0))] [1,3] (.block 0 (.loop (.seq (sr [mq 4 3,fi 5 2 1,lq 6 5,oo 7 (.len (tp 6) false),oo 8 (.bin .lss (tp 4) (tp 7))] [1,3,8] (.cond (tp 8) .skip (.exit 0))) (.seq (.block 1 (sr [fi 11 2 1,lq 12 11,mq 13 3,oo 14 (.idxA 1 (tp 12) (tp 13)),lq 15 14,oo 16 (.call 90 [tp 15]),oo 17 (.un .not (tp 16))] [1,3,17] (.cond (tp 17) (sr [oo 2 (.mv (cq false))] [2] .ret) .skip))) (.region [mq 9 3,oo 10 (.bin .add (tp 9) (ci 1)),mq 3 10] (some [1,3]))))))) (.seq (sr [fi 18 0 1,lq 19 18] [1,19] (.block 2 (.seq (sr [oo 21 (.bin .eql (tp 19) (ci 1)),mq 20 21] [1,19,20] (.cond (tp 20) .skip (.region [oo 22 (.bin .eql (tp 19) (ci 2)),mq 20 22] (some [1,19,20])))) (.cond (tp 20) (sr [fi 23 1 1,lq 24 23,oo 25 (.call 88 [tp 24]),mq 26 25,og 26 true 27 (.fieldA 2 (tp 1)),og 26 true 28 (.load none (tp 27)),og 26 true 29 (.len (tp 28) false),og 26 true 30 (.bin .leq (ci 1) (tp 29)),oo 31 (.pick (tp 26) (tp 30) (cq false)),mq 32 31,og 32 true 33 (.fieldA 2 (tp 1)),og 32 true 34 (.load none (tp 33)),og 32 true 35 (.len (tp 34) false),og 32 true 36 (.bin .leq (tp 35) (ci 8)),oo 37 (.pick (tp 32) (tp 36) (cq false)),mq 2 37] [2] .ret) (.seq (sr [oo 39 (.bin .eql (tp 19) (ci 3)),mq 38 39] [1,19,38] (.cond (tp 38) .skip (.region [oo 40 (.bin .eql (tp 19) (ci 4)),mq 38 40] (some [1,38])))) (.cond (tp 38) (sr [fi 41 1 1,lq 42 41,oo 43 (.call 88 [tp 42]),mq 44 43,og 44 true 45 (.fieldA 2 (tp 1)),og 44 true 46 (.load none (tp 45)),og 44 true 47 (.len (tp 46) false),og 44 true 48 (.bin .eql (tp 47) (ci 0)),oo 49 (.pick (tp 44) (tp 48) (cq false)),mq 2 49] [2] .ret) .skip)))))) (sr [oo 2 (.mv (cq false))] [2] .ret))))
def an_zqap2 : Ann := ann [0,1,2,4,5,3,6,7,8,9,10,11,12,13] ac_zqap2
theorem ok_zqap2 : okd Tryz.prog an_zqap2 ac_zqap2 Tryz.f140 := ⟨by kernel_rfl, by kernel_rfl⟩

def ac_z3gij : AC := (sr [oo 2 (.mv (cq false))] [0] (sr [oo 3 (.mv (ci 0))] [0,3] (.seq (sr [oo 4 (.mv (ci 0))] [0,3,4] (.block 0 (.loop (.seq (sr [mq 6 4,mq 7 0,oo 8 (.len (tp 7) false),oo 9 (.bin .lss (tp 6) (tp 8))] [0,3,4,9] (.cond (tp 9) .skip (.exit 0))) (.seq (.block 1 (.seq (sr [mq 12 0,mq 13 4,oo 14 (.idxA 8 (tp 12) (tp 13)),oo 15 (.load (some 8) (tp 14)),oo 16 (.call 178 [tp 15]),oo 17 (.un .not (tp 16))] [0,3,4,17] (.cond (tp 17) (sr [oo 2 (.mv (cq false))] [2] .ret) .skip)) (.seq (sr [mq 18 0,mq 19 4,oo 20 (.idxA 8 (tp 18) (tp 19)),fi 21 0 20,lq 22 21,oo 23 (.bin .gtr (tp 22) (ci 3))] [0,3,4,23] (.cond (tp 23) (.region [mq 24 3,oo 25 (.bin .add (tp 24) (ci 1)),mq 3 25] (some [0,3,4])) .skip)) (sr [oo 5 (.mv (ci 0))] [0,3,4,5] (.block 2 (.loop (.seq (sr [mq 26 5,mq 27 4,oo 28 (.bin .lss (tp 26) (tp 27))] [0,3,4,5,28] (.cond (tp 28) .skip (.exit 2))) (.seq (.block 3 (.seq (.draw [mq 31 0,mq 32 5,oo 33 (.idxA 8 (tp 31) (tp 32)),fi 34 0 33,lq 35 34,mq 36 0,mq 37 4,oo 38 (.idxA 8 (tp 36) (tp 37)),fi 39 0 38,lq 40 39,oo 41 (.bin .eql (tp 35) (tp 40)),mq 42 41,og 42 true 43 (.mv (tp 0)),og 42 true 44 (.mv (tp 5)),og 42 true 45 (.idxA 8 (tp 43) (tp 44)),og 42 true 46 (.fieldA 1 (tp 45)),og 42 true 47 (.load none (tp 46)),og 42 true 48 (.mv (tp 0)),og 42 true 49 (.mv (tp 4)),og 42 true 50 (.idxA 8 (tp 48) (tp 49)),og 42 true 51 (.fieldA 1 (tp 50)),og 42 true 52 (.load none (tp 51)),og 42 true 53 (.call 179 [tp 47,tp 52]),oo 54 (.pick (tp 42) (tp 53) (cq false))] [0,0,3,7,15,0,0,96,224,480,1023,2047,4095,4095,16383,32767,65535,4095,4095,397311,921599,1970175,4194303,8388607] (.take 0 (.take 1 (.take 2 (.take 3 (.take 4 (.take 5 (.take 6 (.take 7 (.take 8 (.take 9 (.take 10 (.take 11 (.take 12 (.take 13 (.take 14 (.take 15 (.take 16 (.take 17 (.take 18 (.take 19 (.take 20 (.take 21 (.alts (.cons 22 true (.take 23 .done) .nil)))))))))))))))))))))))) (some [0,3,4,5,54])) (.cond (tp 54) (sr [oo 2 (.mv (cq false))] [2] .ret) .skip))) (.region [mq 29 5,oo 30 (.bin .add (tp 29) (ci 1)),mq 5 30] (some [0,3,4,5])))))))))) (.region [mq 10 4,oo 11 (.bin .add (tp 10) (ci 1)),mq 4 11] (some [0,3,4]))))))) (sr [mq 55 3,oo 56 (.bin .leq (tp 55) (ci 1)),mq 57 56,og 57 true 58 (.mv (tp 0)),og 57 true 59 (.len (tp 58) false),og 57 true 60 (.bin .leq (tp 59) (ci 8)),oo 61 (.pick (tp 57) (tp 60) (cq false)),mq 2 61] [2] .ret))))
def an_z3gij : Ann := ann [0,1,2,3,5,6,7,4,9,10,12,13,11,8,14] ac_z3gij
theorem ok_z3gij : okd Tryz.prog an_z3gij ac_z3gij Tryz.f141 := ⟨by kernel_rfl, by kernel_rfl⟩

def ac_z1jc9 : AC := (sr [oo 1 (.box 86 (tp 0)),oo 2 (.mv (cq false))] [1] (.seq (sr [fi 7 0 1,oo 8 (.load (some 2) (tp 7)),oo 9 (.call 180 [tp 8]),oo 10 (.un .not (tp 9)),mq 11 10,og 11 false 12 (.fieldA 2 (tp 1)),og 11 false 13 (.load none (tp 12)),og 11 false 14 (.bin .neq (tp 13) (.const (.string ⟨#[]⟩))),og 11 false 15 (.mv (tp 14)),og 15 true 16 (.fieldA 2 (tp 1)),og 15 true 17 (.load none (tp 16)),og 15 true 18 (.call 181 [tp 17]),og 15 true 19 (.un .not (tp 18)),og 11 false 20 (.pick (tp 15) (tp 19) (cq false)),oo 21 (.pick (tp 11) (cq true) (tp 20)),mq 22 21,og 22 false 23 (.fieldA 3 (tp 1)),og 22 false 24 (.load none (tp 23)),og 22 false 25 (.len (tp 24) false),og 22 false 26 (.bin .gtr (tp 25) (ci 8)),oo 27 (.pick (tp 22) (cq true) (tp 26)),mq 28 27,og 28 false 29 (.fieldA 4 (tp 1)),og 28 false 30 (.load none (tp 29)),og 28 false 31 (.len (tp 30) false),og 28 false 32 (.bin .gtr (tp 31) (ci 8)),oo 33 (.pick (tp 28) (cq true) (tp 32)),mq 34 33,og 34 false 35 (.fieldA 4 (tp 1)),og 34 false 36 (.load none (tp 35)),og 34 false 37 (.call 182 [tp 36]),og 34 false 38 (.un .not (tp 37)),oo 39 (.pick (tp 34) (cq true) (tp 38))] [1,39] (.cond (tp 39) (sr [oo 2 (.mv (cq false))] [2] .ret) .skip)) (.seq (sr [oo 3 (.mv (ci 0))] [1,3] (.block 0 (.loop (.seq (sr [mq 40 3,fi 41 3 1,lq 42 41,oo 43 (.len (tp 42) false),oo 44 (.bin .lss (tp 40) (tp 43))] [1,3,44] (.cond (tp 44) .skip (.exit 0))) (.seq (.block 1 (.seq (sr [fi 47 3 1,lq 48 47,mq 49 3,oo 50 (.idxA 2 (tp 48) (tp 49)),fi 51 0 50,lq 52 51,oo 53 (.call 183 [tp 52]),oo 54 (.un .not (tp 53)),mq 55 54,og 55 false 56 (.fieldA 3 (tp 1)),og 55 false 57 (.load none (tp 56)),og 55 false 58 (.mv (tp 3)),og 55 false 59 (.idxA 2 (tp 57) (tp 58)),og 55 false 60 (.fieldA 1 (tp 59)),og 55 false 61 (.load none (tp 60)),og 55 false 62 (.call 184 [tp 61]),og 55 false 63 (.un .not (tp 62)),oo 64 (.pick (tp 55) (cq true) (tp 63))] [1,3,64] (.cond (tp 64) (sr [oo 2 (.mv (cq false))] [2] .ret) .skip)) (sr [oo 4 (.mv (ci 0))] [1,3,4] (.block 2 (.loop (.seq (sr [mq 65 4,mq 66 3,oo 67 (.bin .lss (tp 65) (tp 66))] [1,3,4,67] (.cond (tp 67) .skip (.exit 2))) (.seq (.block 3 (.seq (.draw [fi 70 3 1,lq 71 70,mq 72 3,oo 73 (.idxA 2 (tp 71) (tp 72)),fi 74 0 73,lq 75 74,fi 76 3 1,lq 77 76,mq 78 4,oo 79 (.idxA 2 (tp 77) (tp 78)),fi 80 0 79,lq 81 80,oo 82 (.call 179 [tp 75,tp 81])] [0,1,0,7,15,31,0,64,0,448,960,1984,4095] (.take 0 (.take 1 (.take 2 (.take 3 (.take 4 (.take 5 (.take 6 (.take 7 (.take 8 (.take 9 (.take 10 (.take 11 (.alts (.cons 12 true .done .nil)))))))))))))) (some [1,3,4,82])) (.cond (tp 82) (sr [oo 2 (.mv (cq false))] [2] .ret) .skip))) (.region [mq 68 4,oo 69 (.bin .add (tp 68) (ci 1)),mq 4 69] (some [1,3,4]))))))))) (.region [mq 45 3,oo 46 (.bin .add (tp 45) (ci 1)),mq 3 46] (some [1,3]))))))) (.seq (sr [oo 5 (.mv (ci 0))] [1,5] (.block 4 (.loop (.seq (sr [mq 83 5,fi 84 4 1,lq 85 84,oo 86 (.len (tp 85) false),oo 87 (.bin .lss (tp 83) (tp 86))] [1,5,87] (.cond (tp 87) .skip (.exit 4))) (.seq (.block 5 (sr [oo 6 (.mv (ci 0))] [1,5,6] (.block 6 (.loop (.seq (sr [mq 90 6,mq 91 5,oo 92 (.bin .lss (tp 90) (tp 91))] [1,5,6,92] (.cond (tp 92) .skip (.exit 6))) (.seq (.block 7 (.seq (.draw [fi 95 4 1,lq 96 95,mq 97 5,oo 98 (.idxA 2 (tp 96) (tp 97)),fi 99 0 98,lq 100 99,fi 101 4 1,lq 102 101,mq 103 6,oo 104 (.idxA 2 (tp 102) (tp 103)),fi 105 0 104,lq 106 105,oo 107 (.bin .eql (tp 100) (tp 106))] [0,1,0,7,15,31,0,64,0,448,960,1984,4095] (.take 0 (.take 1 (.take 2 (.take 3 (.take 4 (.take 5 (.take 6 (.take 7 (.take 8 (.take 9 (.take 10 (.take 11 (.take 12 .done))))))))))))) (some [1,5,6,107])) (.cond (tp 107) (sr [oo 2 (.mv (cq false))] [2] .ret) .skip))) (.region [mq 93 6,oo 94 (.bin .add (tp 93) (ci 1)),mq 6 94] (some [1,5,6])))))))) (.region [mq 88 5,oo 89 (.bin .add (tp 88) (ci 1)),mq 5 89] (some [1,5]))))))) (sr [oo 2 (.mv (cq true))] [2] .ret)))))
def an_z1jc9 : Ann := ann [0,1,2,3,4,6,7,8,9,11,12,10,5,13,14,16,17,19,20,18,15,21] ac_z1jc9
theorem ok_z1jc9 : okd Tryz.prog an_z1jc9 ac_z1jc9 Tryz.f142 := ⟨by kernel_rfl, by kernel_rfl⟩

def ac_z6xll : AC := (sr [oo 1 (.box 126 (tp 0)),oo 2 (.mv (cq false))] [1] (sr [fi 4 3 1,lq 5 4,oo 6 (.bin .eql (tp 5) (.const (.string ⟨#[]⟩))),mq 7 6,og 7 true 8 (.fieldA 4 (tp 1)),og 7 true 9 (.load none (tp 8)),og 7 true 10 (.bin .eql (tp 9) (ci 0)),oo 11 (.pick (tp 7) (tp 10) (cq false)),mq 12 11,og 12 true 13 (.fieldA 5 (tp 1)),og 12 true 14 (.load none (tp 13)),og 12 true 15 (.bin .eql (tp 14) (.const (.string ⟨#[]⟩))),oo 16 (.pick (tp 12) (tp 15) (cq false)),mq 17 16,og 17 true 18 (.fieldA 6 (tp 1)),og 17 true 19 (.load none (tp 18)),og 17 true 20 (.un .not (tp 19)),oo 21 (.pick (tp 17) (tp 20) (cq false)),mq 22 21,og 22 true 23 (.fieldA 7 (tp 1)),og 22 true 24 (.load none (tp 23)),og 22 true 25 (.bin .eql (tp 24) (ci 0)),oo 26 (.pick (tp 22) (tp 25) (cq false)),mq 3 26] [1,3] (.seq (sr [fi 27 0 1,lq 28 27] [1,3,28] (.block 0 (.seq (sr [oo 30 (.bin .eql (tp 28) (ci 1)),mq 29 30] [1,3,28,29] (.cond (tp 29) .skip (.region [oo 31 (.bin .eql (tp 28) (ci 2)),mq 29 31] (some [1,3,28,29])))) (.cond (tp 29) (sr [mq 32 3,mq 33 32,og 33 true 34 (.fieldA 1 (tp 1)),og 33 true 35 (.load none (tp 34)),og 33 true 36 (.call 183 [tp 35]),oo 37 (.pick (tp 33) (tp 36) (cq false)),mq 38 37,og 38 true 39 (.fieldA 2 (tp 1)),og 38 true 40 (.load none (tp 39)),og 38 true 41 (.call 184 [tp 40]),oo 42 (.pick (tp 38) (tp 41) (cq false)),mq 2 42] [2] .ret) (sr [oo 44 (.bin .eql (tp 28) (ci 3)),mq 43 44] [1,3,28,43] (.cond (tp 43) (sr [mq 45 3,mq 46 45,og 46 true 47 (.fieldA 1 (tp 1)),og 46 true 48 (.load none (tp 47)),og 46 true 49 (.call 183 [tp 48]),oo 50 (.pick (tp 46) (tp 49) (cq false)),mq 51 50,og 51 true 52 (.fieldA 2 (tp 1)),og 51 true 53 (.load none (tp 52)),og 51 true 54 (.bin .eql (tp 53) (.const (.string ⟨#[]⟩))),oo 55 (.pick (tp 51) (tp 54) (cq false)),mq 2 55] [2] .ret) (sr [oo 57 (.bin .eql (tp 28) (ci 4)),mq 56 57] [1,28,56] (.cond (tp 56) (sr [fi 58 1 1,lq 59 58,oo 60 (.bin .eql (tp 59) (.const (.string ⟨#[]⟩))),mq 61 60,og 61 true 62 (.fieldA 2 (tp 1)),og 61 true 63 (.load none (tp 62)),og 61 true 64 (.bin .eql (tp 63) (.const (.string ⟨#[]⟩))),oo 65 (.pick (tp 61) (tp 64) (cq false)),mq 66 65,og 66 true 67 (.load (some 8) (tp 1)),og 66 true 68 (.call 217 [tp 67]),oo 69 (.pick (tp 66) (tp 68) (cq false)),mq 70 69,og 70 true 71 (.fieldA 4 (tp 1)),og 70 true 72 (.load none (tp 71)),og 70 true 73 (.bin .leq (ci 0) (tp 72)),oo 74 (.pick (tp 70) (tp 73) (cq false)),mq 75 74,og 75 true 76 (.fieldA 4 (tp 1)),og 75 true 77 (.load none (tp 76)),og 75 true 78 (.bin .leq (tp 77) (ci 65535)),oo 79 (.pick (tp 75) (tp 78) (cq false)),mq 80 79,og 80 true 81 (.fieldA 7 (tp 1)),og 80 true 82 (.load none (tp 81)),og 80 true 83 (.bin .eql (tp 82) (ci 301)),og 80 true 84 (.mv (tp 83)),og 84 false 85 (.fieldA 7 (tp 1)),og 84 false 86 (.load none (tp 85)),og 84 false 87 (.bin .eql (tp 86) (ci 302)),og 80 true 88 (.pick (tp 84) (cq true) (tp 87)),oo 89 (.pick (tp 80) (tp 88) (cq false)),mq 2 89] [2] .ret) (sr [oo 91 (.bin .eql (tp 28) (ci 5)),mq 90 91] [1,90] (.cond (tp 90) (sr [fi 92 1 1,lq 93 92,oo 94 (.bin .eql (tp 93) (.const (.string ⟨#[]⟩))),mq 95 94,og 95 true 96 (.fieldA 2 (tp 1)),og 95 true 97 (.load none (tp 96)),og 95 true 98 (.bin .eql (tp 97) (.const (.string ⟨#[]⟩))),oo 99 (.pick (tp 95) (tp 98) (cq false)),mq 100 99,og 100 true 101 (.fieldA 4 (tp 1)),og 100 true 102 (.load none (tp 101)),og 100 true 103 (.bin .eql (tp 102) (ci 0)),oo 104 (.pick (tp 100) (tp 103) (cq false)),mq 105 104,og 105 true 106 (.fieldA 7 (tp 1)),og 105 true 107 (.load none (tp 106)),og 105 true 108 (.bin .eql (tp 107) (ci 0)),oo 109 (.pick (tp 105) (tp 108) (cq false)),mq 110 109,og 110 true 111 (.load (some 8) (tp 1)),og 110 true 112 (.call 217 [tp 111]),oo 113 (.pick (tp 110) (tp 112) (cq false)),mq 114 113,og 114 true 115 (.fieldA 3 (tp 1)),og 114 true 116 (.load none (tp 115)),og 114 true 117 (.fieldA 5 (tp 1)),og 114 true 118 (.load none (tp 117)),og 114 true 119 (.bin .add (tp 116) (tp 118)),og 114 true 120 (.bin .neq (tp 119) (.const (.string ⟨#[]⟩))),oo 121 (.pick (tp 114) (tp 120) (cq false)),mq 2 121] [2] .ret) .skip)))))))))) (sr [oo 2 (.mv (cq false))] [2] .ret))))
def an_z6xll : Ann := ann (List.range 13) ac_z6xll
theorem ok_z6xll : okd Tryz.prog an_z6xll ac_z6xll Tryz.f178 := ⟨by kernel_rfl, by kernel_rfl⟩

def ac_zm0ue : AC := (sr [oo 4 (.mv (cq false))] [0,1] (sr [mq 5 0,oo 6 (.call 218 [tp 5]),mq 7 1,oo 8 (.call 218 [tp 7]),oo 9 (.bin .eql (tp 6) (tp 8)),mq 4 9] [4] .ret))
def an_zm0ue : Ann := ann (List.range 2) ac_zm0ue
theorem ok_zm0ue : okd Tryz.prog an_zm0ue ac_zm0ue Tryz.f179 := ⟨by kernel_rfl, by kernel_rfl⟩

def ac_zetzt : AC := (sr [oo 1 (.box 84 (tp 0)),oo 2 (.mv (cq false))] [1] (.seq (sr [fi 3 0 1,lq 4 3,oo 5 (.bin .eql (tp 4) (ci 1))] [1,5] (.cond (tp 5) (sr [fi 6 1 1,lq 7 6,oo 8 (.call 219 [tp 7]),mq 2 8] [2] .ret) .skip)) (sr [fi 9 0 1,lq 10 9,oo 11 (.bin .eql (tp 10) (ci 2)),mq 12 11,og 12 true 13 (.fieldA 1 (tp 1)),og 12 true 14 (.load none (tp 13)),og 12 true 15 (.call 220 [tp 14]),oo 16 (.pick (tp 12) (tp 15) (cq false)),mq 2 16] [2] .ret)))
def an_zetzt : Ann := ann (List.range 4) ac_zetzt
theorem ok_zetzt : okd Tryz.prog an_zetzt ac_zetzt Tryz.f180 := ⟨by kernel_rfl, by kernel_rfl⟩

def ac_zhynl : AC := (sr [oo 2 (.mv (cq false))] [0] (.seq (sr [oo 3 (.mv (ci 0))] [0,3] (.block 0 (.loop (.seq (sr [mq 4 3,mq 5 0,oo 6 (.len (tp 5) true),oo 7 (.bin .lss (tp 4) (tp 6))] [0,3,7] (.cond (tp 7) .skip (.exit 0))) (.seq (.block 1 (sr [mq 10 0,mq 11 3,oo 12 (.idxS (tp 10) (tp 11)),oo 13 (.bin .lss (tp 12) (.const (.int .u8 65))),mq 14 13,og 14 false 15 (.mv (tp 0)),og 14 false 16 (.mv (tp 3)),og 14 false 17 (.idxS (tp 15) (tp 16)),og 14 false 18 (.bin .gtr (tp 17) (.const (.int .u8 90))),oo 19 (.pick (tp 14) (cq true) (tp 18))] [0,3,19] (.cond (tp 19) (sr [oo 2 (.mv (cq false))] [2] .ret) .skip))) (.region [mq 8 3,oo 9 (.bin .add (tp 8) (ci 1)),mq 3 9] (some [0,3]))))))) (sr [mq 20 0,oo 21 (.len (tp 20) true),oo 22 (.bin .leq (ci 1) (tp 21)),mq 23 22,og 23 true 24 (.mv (tp 0)),og 23 true 25 (.len (tp 24) true),og 23 true 26 (.bin .leq (tp 25) (ci 10)),oo 27 (.pick (tp 23) (tp 26) (cq false)),mq 2 27] [2] .ret)))
def an_zhynl : Ann := ann [0,1,2,4,5,3,6] ac_zhynl
theorem ok_zhynl : okd Tryz.prog an_zhynl ac_zhynl Tryz.f181 := ⟨by kernel_rfl, by kernel_rfl⟩

def ac_z6q89 : AC := (sr [oo 2 (.mv (cq false))] [0] (.seq (sr [oo 3 (.mv (ci 0))] [0,3] (.block 0 (.loop (.seq (sr [mq 4 3,mq 5 0,oo 6 (.len (tp 5) false),oo 7 (.bin .lss (tp 4) (tp 6))] [0,3,7] (.cond (tp 7) .skip (.exit 0))) (.seq (.block 1 (sr [mq 10 0,mq 11 3,oo 12 (.idxA 2 (tp 10) (tp 11)),fi 13 0 12,lq 14 13,oo 15 (.len (tp 14) true),oo 16 (.bin .lss (tp 15) (ci 1)),mq 17 16,og 17 false 18 (.mv (tp 0)),og 17 false 19 (.mv (tp 3)),og 17 false 20 (.idxA 2 (tp 18) (tp 19)),og 17 false 21 (.fieldA 0 (tp 20)),og 17 false 22 (.load none (tp 21)),og 17 false 23 (.len (tp 22) true),og 17 false 24 (.bin .gtr (tp 23) (ci 40)),oo 25 (.pick (tp 17) (cq true) (tp 24)),mq 26 25,og 26 false 27 (.mv (tp 0)),og 26 false 28 (.mv (tp 3)),og 26 false 29 (.idxA 2 (tp 27) (tp 28)),og 26 false 30 (.fieldA 1 (tp 29)),og 26 false 31 (.load none (tp 30)),og 26 false 32 (.len (tp 31) true),og 26 false 33 (.bin .gtr (tp 32) (ci 40)),oo 34 (.pick (tp 26) (cq true) (tp 33))] [0,3,34] (.cond (tp 34) (sr [oo 2 (.mv (cq false))] [2] .ret) .skip))) (.region [mq 8 3,oo 9 (.bin .add (tp 8) (ci 1)),mq 3 9] (some [0,3]))))))) (sr [mq 35 0,oo 36 (.len (tp 35) false),oo 37 (.bin .leq (tp 36) (ci 20)),mq 2 37] [2] .ret)))
def an_z6q89 : Ann := ann [0,1,2,4,5,3,6] ac_z6q89
theorem ok_z6q89 : okd Tryz.prog an_z6q89 ac_z6q89 Tryz.f182 := ⟨by kernel_rfl, by kernel_rfl⟩

def ac_zrlh7 : AC := (sr [oo 2 (.mv (cq false))] [0] (.seq (sr [oo 3 (.mv (ci 0))] [0,3] (.block 0 (.loop (.seq (sr [mq 6 3,mq 7 0,oo 8 (.len (tp 7) true),oo 9 (.bin .lss (tp 6) (tp 8))] [0,3,9] (.cond (tp 9) .skip (.exit 0))) (.seq (.block 1 (sr [mq 12 0,mq 13 3,oo 14 (.idxS (tp 12) (tp 13)),mq 4 14] [0,3,4] (sr [mq 15 4,oo 16 (.bin .leq (.const (.int .u8 48)) (tp 15)),mq 17 16,og 17 true 18 (.mv (tp 4)),og 17 true 19 (.bin .leq (tp 18) (.const (.int .u8 57))),oo 20 (.pick (tp 17) (tp 19) (cq false)),mq 21 20,og 21 false 22 (.mv (tp 4)),og 21 false 23 (.bin .leq (.const (.int .u8 65)) (tp 22)),og 21 false 24 (.mv (tp 23)),og 24 true 25 (.mv (tp 4)),og 24 true 26 (.bin .leq (tp 25) (.const (.int .u8 90))),og 21 false 27 (.pick (tp 24) (tp 26) (cq false)),oo 28 (.pick (tp 21) (cq true) (tp 27)),mq 29 28,og 29 false 30 (.mv (tp 4)),og 29 false 31 (.bin .leq (.const (.int .u8 97)) (tp 30)),og 29 false 32 (.mv (tp 31)),og 32 true 33 (.mv (tp 4)),og 32 true 34 (.bin .leq (tp 33) (.const (.int .u8 122))),og 29 false 35 (.pick (tp 32) (tp 34) (cq false)),oo 36 (.pick (tp 29) (cq true) (tp 35)),mq 5 36] [0,3,4,5] (.seq (sr [mq 37 4] [0,3,5,37] (.block 2 (.seq (sr [oo 39 (.bin .eql (tp 37) (.const (.int .u8 33))),mq 38 39] [0,3,5,37,38] (.cond (tp 38) .skip (sr [oo 40 (.bin .eql (tp 37) (.const (.int .u8 35))),mq 38 40] [0,3,5,37,38] (.cond (tp 38) .skip (sr [oo 41 (.bin .eql (tp 37) (.const (.int .u8 36))),mq 38 41] [0,3,5,37,38] (.cond (tp 38) .skip (sr [oo 42 (.bin .eql (tp 37) (.const (.int .u8 37))),mq 38 42] [0,3,5,37,38] (.cond (tp 38) .skip (sr [oo 43 (.bin .eql (tp 37) (.const (.int .u8 38))),mq 38 43] [0,3,5,37,38] (.cond (tp 38) .skip (sr [oo 44 (.bin .eql (tp 37) (.const (.int .u8 39))),mq 38 44] [0,3,5,37,38] (.cond (tp 38) .skip (sr [oo 45 (.bin .eql (tp 37) (.const (.int .u8 42))),mq 38 45] [0,3,5,37,38] (.cond (tp 38) .skip (sr [oo 46 (.bin .eql (tp 37) (.const (.int .u8 43))),mq 38 46] [0,3,5,37,38] (.cond (tp 38) .skip (sr [oo 47 (.bin .eql (tp 37) (.const (.int .u8 45))),mq 38 47] [0,3,5,37,38] (.cond (tp 38) .skip (sr [oo 48 (.bin .eql (tp 37) (.const (.int .u8 46))),mq 38 48] [0,3,5,37,38] (.cond (tp 38) .skip (sr [oo 49 (.bin .eql (tp 37) (.const (.int .u8 94))),mq 38 49] [0,3,5,37,38] (.cond (tp 38) .skip (sr [oo 50 (.bin .eql (tp 37) (.const (.int .u8 95))),mq 38 50] [0,3,5,37,38] (.cond (tp 38) .skip (sr [oo 51 (.bin .eql (tp 37) (.const (.int .u8 96))),mq 38 51] [0,3,5,37,38] (.cond (tp 38) .skip (sr [oo 52 (.bin .eql (tp 37) (.const (.int .u8 124))),mq 38 52] [0,3,5,37,38] (.cond (tp 38) .skip (.region [oo 53 (.bin .eql (tp 37) (.const (.int .u8 126))),mq 38 53] (some [0,3,5,38])))))))))))))))))))))))))))))) (.cond (tp 38) (.region [oo 5 (.mv (cq true))] (some [0,3,5])) .skip)))) (sr [mq 54 5,oo 55 (.un .not (tp 54))] [0,3,55] (.cond (tp 55) (sr [oo 2 (.mv (cq false))] [2] .ret) .skip)))))) (.region [mq 10 3,oo 11 (.bin .add (tp 10) (ci 1)),mq 3 11] (some [0,3]))))))) (sr [mq 56 0,oo 57 (.len (tp 56) true),oo 58 (.bin .leq (ci 1) (tp 57)),mq 59 58,og 59 true 60 (.mv (tp 0)),og 59 true 61 (.len (tp 60) true),og 59 true 62 (.bin .leq (tp 61) (ci 40)),oo 63 (.pick (tp 59) (tp 62) (cq false)),mq 2 63] [2] .ret)))
def an_zrlh7 : Ann := ann [0,1,2,4,5,6,7,8,9,10,11,12,13,14,15,16,17,18,19,20,21,22,23,24,3,25] ac_zrlh7
theorem ok_zrlh7 : okd Tryz.prog an_zrlh7 ac_zrlh7 Tryz.f183 := ⟨by kernel_rfl, by kernel_rfl⟩

def ac_z86s : AC := (sr [oo 2 (.mv (cq false))] [0] (.seq (sr [oo 3 (.mv (ci 0))] [0,3] (.block 0 (.loop (.seq (sr [mq 5 3,mq 6 0,oo 7 (.len (tp 6) true),oo 8 (.bin .lss (tp 5) (tp 7))] [0,3,8] (.cond (tp 8) .skip (.exit 0))) (.seq (.block 1 (sr [mq 11 3,oo 12 (.bin .eql (tp 11) (ci 0)),mq 13 12,og 13 false 14 (.mv (tp 3)),og 13 false 15 (.mv (tp 0)),og 13 false 16 (.len (tp 15) true),og 13 false 17 (.bin .sub (tp 16) (ci 1)),og 13 false 18 (.bin .eql (tp 14) (tp 17)),oo 19 (.pick (tp 13) (cq true) (tp 18)),mq 4 19] [0,3,4] (sr [mq 20 0,mq 21 3,oo 22 (.idxS (tp 20) (tp 21)),oo 23 (.bin .lss (tp 22) (.const (.int .u8 32))),mq 24 23,og 24 false 25 (.mv (tp 0)),og 24 false 26 (.mv (tp 3)),og 24 false 27 (.idxS (tp 25) (tp 26)),og 24 false 28 (.bin .gtr (tp 27) (.const (.int .u8 126))),oo 29 (.pick (tp 24) (cq true) (tp 28)),mq 30 29,og 30 false 31 (.mv (tp 0)),og 30 false 32 (.mv (tp 3)),og 30 false 33 (.idxS (tp 31) (tp 32)),og 30 false 34 (.bin .eql (tp 33) (.const (.int .u8 32))),og 30 false 35 (.mv (tp 34)),og 35 true 36 (.mv (tp 4)),og 30 false 37 (.pick (tp 35) (tp 36) (cq false)),oo 38 (.pick (tp 30) (cq true) (tp 37))] [0,3,38] (.cond (tp 38) (sr [oo 2 (.mv (cq false))] [2] .ret) .skip)))) (.region [mq 9 3,oo 10 (.bin .add (tp 9) (ci 1)),mq 3 10] (some [0,3]))))))) (sr [mq 39 0,oo 40 (.len (tp 39) true),oo 41 (.bin .leq (tp 40) (ci 40)),mq 2 41] [2] .ret)))
def an_z86s : Ann := ann [0,1,2,4,5,6,3,7] ac_z86s
theorem ok_z86s : okd Tryz.prog an_z86s ac_z86s Tryz.f184 := ⟨by kernel_rfl, by kernel_rfl⟩

def ac_zarsw : AC := (sr [oo 1 (.box 126 (tp 0)),oo 2 (.mv (cq false))] [1] (.seq (sr [fi 3 3 1,lq 4 3,oo 5 (.bin .neq (tp 4) (.const (.string ⟨#[]⟩))),mq 6 5,og 6 true 7 (.fieldA 3 (tp 1)),og 6 true 8 (.load none (tp 7)),og 6 true 9 (.call 88 [tp 8]),og 6 true 10 (.un .not (tp 9)),oo 11 (.pick (tp 6) (tp 10) (cq false))] [1,11] (.cond (tp 11) (sr [oo 2 (.mv (cq false))] [2] .ret) .skip)) (.seq (sr [fi 12 5 1,lq 13 12,oo 14 (.bin .eql (tp 13) (.const (.string ⟨#[]⟩)))] [1,14] (.cond (tp 14) (sr [fi 15 6 1,lq 16 15,oo 17 (.un .not (tp 16)),mq 2 17] [2] .ret) .skip)) (sr [fi 18 5 1,lq 19 18,oo 20 (.call 219 [tp 19]),mq 21 20,og 21 true 22 (.fieldA 6 (tp 1)),og 21 true 23 (.load none (tp 22)),og 21 true 24 (.mv (tp 23)),og 24 false 25 (.fieldA 5 (tp 1)),og 24 false 26 (.load none (tp 25)),og 24 false 27 (.call 220 [tp 26]),og 21 true 28 (.pick (tp 24) (cq true) (tp 27)),oo 29 (.pick (tp 21) (tp 28) (cq false)),mq 2 29] [2] .ret))))
def an_zarsw : Ann := ann (List.range 6) ac_zarsw
theorem ok_zarsw : okd Tryz.prog an_zarsw ac_zarsw Tryz.f217 := ⟨by kernel_rfl, by kernel_rfl⟩

def ac_z5okg : AC := (sr [oo 2 (.mv (.const (.string ⟨#[]⟩)))] [0] (sr [oo 3 (.mv (.const (.string ⟨#[]⟩)))] [0,3] (.seq (sr [oo 4 (.mv (ci 0))] [0,3,4] (.block 0 (.loop (.seq (sr [mq 6 4,mq 7 0,oo 8 (.len (tp 7) true),oo 9 (.bin .lss (tp 6) (tp 8))] [0,3,4,9] (.cond (tp 9) .skip (.exit 0))) (.seq (.block 1 (sr [mq 12 0,mq 13 4,oo 14 (.idxS (tp 12) (tp 13)),mq 5 14] [0,3,4,5] (.seq (sr [mq 15 5,oo 16 (.bin .leq (.const (.int .u8 65)) (tp 15)),mq 17 16,og 17 true 18 (.mv (tp 5)),og 17 true 19 (.bin .leq (tp 18) (.const (.int .u8 90))),oo 20 (.pick (tp 17) (tp 19) (cq false))] [0,3,4,5,20] (.cond (tp 20) (.region [mq 21 5,oo 22 (.bin .add (tp 21) (.const (.int .u8 32))),mq 5 22] (some [0,3,4,5])) .skip)) (.region [mq 23 3,mq 24 5,oo 25 (.bslice 5 1 [tp 24]),oo 26 (.bstr (tp 25)),oo 27 (.bin .add (tp 23) (tp 26)),mq 3 27] (some [0,3,4]))))) (.region [mq 10 4,oo 11 (.bin .add (tp 10) (ci 1)),mq 4 11] (some [0,3,4]))))))) (sr [mq 28 3,mq 2 28] [2] .ret))))
def an_z5okg : Ann := ann [0,1,2,3,5,6,7,4,8,9] ac_z5okg
theorem ok_z5okg : okd Tryz.prog an_z5okg ac_z5okg Tryz.f218 := ⟨by kernel_rfl, by kernel_rfl⟩

def ac_z9wy : AC := (sr [oo 2 (.mv (cq false))] [0] (.seq (sr [mq 4 0,oo 5 (.len (tp 4) true),oo 6 (.bin .lss (tp 5) (ci 1)),mq 7 6,og 7 false 8 (.mv (tp 0)),og 7 false 9 (.len (tp 8) true),og 7 false 10 (.bin .gtr (tp 9) (ci 60)),oo 11 (.pick (tp 7) (cq true) (tp 10)),mq 12 11,og 12 false 13 (.mv (tp 0)),og 12 false 14 (.idxS (tp 13) (ci 0)),og 12 false 15 (.bin .neq (tp 14) (.const (.int .u8 47))),oo 16 (.pick (tp 12) (cq true) (tp 15))] [0,16] (.cond (tp 16) (sr [oo 2 (.mv (cq false))] [2] .ret) .skip)) (.seq (sr [oo 3 (.mv (ci 0))] [0,3] (.block 0 (.loop (.seq (sr [mq 17 3,mq 18 0,oo 19 (.len (tp 18) true),oo 20 (.bin .lss (tp 17) (tp 19))] [0,3,20] (.cond (tp 20) .skip (.exit 0))) (.seq (.block 1 (sr [mq 23 0,mq 24 3,oo 25 (.idxS (tp 23) (tp 24)),oo 26 (.bin .lss (tp 25) (.const (.int .u8 33))),mq 27 26,og 27 false 28 (.mv (tp 0)),og 27 false 29 (.mv (tp 3)),og 27 false 30 (.idxS (tp 28) (tp 29)),og 27 false 31 (.bin .gtr (tp 30) (.const (.int .u8 126))),oo 32 (.pick (tp 27) (cq true) (tp 31)),mq 33 32,og 33 false 34 (.mv (tp 0)),og 33 false 35 (.mv (tp 3)),og 33 false 36 (.idxS (tp 34) (tp 35)),og 33 false 37 (.bin .eql (tp 36) (.const (.int .u8 63))),oo 38 (.pick (tp 33) (cq true) (tp 37)),mq 39 38,og 39 false 40 (.mv (tp 0)),og 39 false 41 (.mv (tp 3)),og 39 false 42 (.idxS (tp 40) (tp 41)),og 39 false 43 (.bin .eql (tp 42) (.const (.int .u8 35))),oo 44 (.pick (tp 39) (cq true) (tp 43))] [0,3,44] (.cond (tp 44) (sr [oo 2 (.mv (cq false))] [2] .ret) .skip))) (.region [mq 21 3,oo 22 (.bin .add (tp 21) (ci 1)),mq 3 22] (some [0,3]))))))) (sr [oo 2 (.mv (cq true))] [2] .ret))))
def an_z9wy : Ann := ann [0,1,2,3,4,6,7,5,8] ac_z9wy
theorem ok_z9wy : okd Tryz.prog an_z9wy ac_z9wy Tryz.f219 := ⟨by kernel_rfl, by kernel_rfl⟩

def ac_z3bmw : AC := (sr [oo 2 (.mv (cq false))] [0] (sr [mq 3 0,oo 4 (.call 219 [tp 3]),mq 5 4,og 5 true 6 (.mv (tp 0)),og 5 true 7 (.len (tp 6) true),og 5 true 8 (.bin .eql (tp 7) (ci 1)),og 5 true 9 (.mv (tp 8)),og 9 false 10 (.mv (tp 0)),og 9 false 11 (.mv (tp 0)),og 9 false 12 (.len (tp 11) true),og 9 false 13 (.bin .sub (tp 12) (ci 1)),og 9 false 14 (.idxS (tp 10) (tp 13)),og 9 false 15 (.bin .neq (tp 14) (.const (.int .u8 47))),og 5 true 16 (.pick (tp 9) (cq true) (tp 15)),oo 17 (.pick (tp 5) (tp 16) (cq false)),mq 2 17] [2] .ret))
def an_z3bmw : Ann := ann (List.range 2) ac_z3bmw
theorem ok_z3bmw : okd Tryz.prog an_z3bmw ac_z3bmw Tryz.f220 := ⟨by kernel_rfl, by kernel_rfl⟩

end Go.Proofs.YtklolokoaooppaaGreatDoor


namespace Go.Proofs.YtklolokoaooppaaGreatDoor
open Go Go.RowKit
set_option linter.unusedSimpArgs false
set_option linter.unusedVariables false
set_option maxRecDepth 100000

theorem labAt_true {n j : Nat} {b : UInt8} : labAt n j b = true ↔ ((97 ≤ b.toNat ∧ b.toNat ≤ 122) ∨ (48 ≤ b.toNat ∧ b.toNat ≤ 57)) ∨ (b.toNat = 45 ∧ ¬ (j = 0 ∨ j + 1 = n)) := by
  simp [labAt]
theorem labAt_false {n j : Nat} {b : UInt8} : labAt n j b = false ↔ ¬ (((97 ≤ b.toNat ∧ b.toNat ≤ 122) ∨ (48 ≤ b.toNat ∧ b.toNat ≤ 57)) ∨ (b.toNat = 45 ∧ ¬ (j = 0 ∨ j + 1 = n))) := by
  rw [← labAt_true]; simp
theorem bool_no {b : Bool} (h : ¬ b = true) : bln false = bln b := by cases b <;> simp_all
theorem bool_yes {b : Bool} (h : b = true) : bln true = bln b := by rw [h]

set_option maxHeartbeats 1000000 in
theorem ref1_Label (s : ByteArray) (hs : s.size ≤ 1000000) : Pure Tryz.prog 89 [str s] (fun d => d = bln (label s)) := by
  refine pure_of_run follows an_z4drv Tryz.func89 rfl ok_z4drv.1 ok_z4drv.2 (by simp [Tryz.ntmps89]) ?_
  rw [run_start]
  simp only [ac_z4drv, oo, og, tp, ci, cq, mq, lq, fi, sr, go_sem, contS_seq, simprocAttr]
  refine loopS (fun k st => ∃ i : Nat, k = s.size - i ∧ i ≤ s.size ∧ (∀ (j : Nat) (b : UInt8), j < i → s[j]? = some b → labAt s.size j b = true) ∧ st = ⟨[(0, str s), (3, int i)], [], [], .no⟩) s.size _ ?_ ⟨0, rfl, by omega, fun _ _ h => absurd h (Nat.not_lt_zero _), rfl⟩ ?_
  · exact lessA
  rintro k st ⟨i, rfl, hi, hT, rfl⟩
  have hw := i64_succ (show i < 1000000000 by omega)
  have hw1 : IntKind.i64.wrap ((s.size : Int) - 1) = (s.size : Int) - 1 := IntWalk.i64_in _ (by omega)
  by_cases hlt : i < s.size
  · obtain ⟨b, hb⟩ := at_byte hlt
    have h1 : ((i : Int) < (s.size : Int)) = True := eq_true (by omega)
    have bad : labAt s.size i b = false → bln false = bln (label s) := fun h => bool_no fun e => by
      have := ((label_iff s).1 e).2.2 i b hb
      rw [h] at this
      cases this
    have good : labAt s.size i b = true → ∀ st, Weak Tryz.prog st ⟨[(0, str s), (3, int (i + 1 : Nat))], [], [], .no⟩ → Round Tryz.prog (fun k st => ∃ i : Nat, k = s.size - i ∧ i ≤ s.size ∧ (∀ (j : Nat) (b : UInt8), j < i → s[j]? = some b → labAt s.size j b = true) ∧ st = ⟨[(0, str s), (3, int i)], [], [], .no⟩) (s.size - i) st := fun h st hw =>
      ⟨s.size - (i + 1), _, by omega, hw, i + 1, rfl, by omega, fun j b' hj hb' => by
        rcases Nat.lt_or_ge j i with h2 | h2
        · exact hT j b' h2 hb'
        · obtain rfl : j = i := by omega
          rw [hb] at hb'; cases hb'; exact h, rfl⟩
    simp only [go_sem, contS_seq, simprocAttr, h1, hb, hw, hw1]
    repeat' (first | refine GifP.mk (fun _ => ?_) (fun _ => ?_) | refine Gif.mk (fun _ => ?_) (fun _ => ?_))
    all_goals first
      | (refine good (labAt_true.2 (by omega)) _ ?_; exact lessA)
      | (simp only [retK, resD, St.get, lk, oneD, D.pub, D.pubs, retL, reduceIte, Nat.reduceEqDiff, Nat.reduceAdd, Nat.reduceLeDiff, Tryz.results89]; exact ⟨_, rfl, rfl, bad (labAt_false.2 (by omega))⟩)
  have h1 : ((i : Int) < (s.size : Int)) = False := eq_false (by omega)
  obtain rfl : i = s.size := by omega
  clear hw hw1
  simp only [go_sem, contS_seq, simprocAttr, h1]
  clear h1
  repeat' (first | refine GifP.mk (fun _ => ?_) (fun _ => ?_) | refine Gif.mk (fun _ => ?_) (fun _ => ?_))
  all_goals
    simp only [retK, resD, St.get, lk, oneD, D.pub, D.pubs, retL, reduceIte, Nat.reduceEqDiff, Nat.reduceAdd, Nat.reduceLeDiff, Tryz.results89]
    first
      | exact ⟨_, rfl, rfl, bool_no fun e => by obtain ⟨e1, e2, _⟩ := (label_iff s).1 e; omega⟩
      | exact ⟨_, rfl, rfl, congrArg bln (Bool.eq_iff_iff.2 ⟨fun h => (label_iff s).2 ⟨by omega, by have := of_decide_eq_true h; omega, fun j b hb => hT j b (by rw [bytes_get] at hb; exact (List.getElem?_eq_some_iff.1 hb).1) hb⟩, fun h => decide_eq_true (by have := ((label_iff s).1 h).2.1; omega)⟩)⟩

set_option maxHeartbeats 1000000 in
theorem ref1_Split (s : ByteArray) (hs : s.size ≤ 1000000) (c : UInt8) (k : Int) (hk : k = c.toNat) : Pure Tryz.prog 138 [str s, u8 k] (fun d => d = .pd (.slice (rows cStr (splitB c s.size s)))) := by
  subst hk
  refine pure_of_run_solo follows an_zwnk2 Tryz.func138 rfl ok_zwnk2.1 ok_zwnk2.2 (by simp [Tryz.ntmps138]) ?_
  rw [run_start]
  simp only [ac_zwnk2, oo, og, tp, ci, cq, mq, lq, fi, sr, go_sem, contS_seq, simprocAttr]
  refine loopS (fun k st => ∃ (i : Nat) (t : Nat), (t = 7 ∨ t = 21) ∧ k = s.size - i ∧ i ≤ s.size ∧ st = ⟨[(0, str s), (1, u8 c.toNat), (5, .own 9 1 (rows cStr (splitR c (s.data.toList.take i))) t), (6, int i)], [], [], .solo⟩) s.size _ ?_ ⟨0, 7, .inl rfl, rfl, by omega, rfl⟩ ?_
  · have h0 : rows cStr (splitR c (s.data.toList.take 0)) = [[.raw (.string ⟨#[]⟩)]] := rfl
    rw [h0]; exact lessA
  rintro k st ⟨i, t, ht, rfl, hi, rfl⟩
  have hw := i64_succ (show i < 1000000000 by omega)
  obtain ⟨out, hout⟩ : ∃ out, splitR c (s.data.toList.take i) = out := ⟨_, rfl⟩
  have hlen := splitR_len c (s.data.toList.take i)
  have hsz := splitR_size c (s.data.toList.take i)
  rw [hout, List.length_take, size_list] at hlen
  rw [hout, List.length_take, size_list] at hsz
  rw [hout]
  by_cases hlt : i < s.size
  · obtain ⟨b, hb⟩ := at_byte hlt
    have h1 : ((i : Int) < (s.size : Int)) = True := eq_true (by omega)
    have hst := splitR_step c hb
    rw [hout] at hst
    obtain ⟨m, hm⟩ : ∃ m, out.length = m + 1 := ⟨out.length - 1, by omega⟩
    obtain ⟨z, hz⟩ := at_lt (show m < out.length by omega)
    have hwl : IntKind.i64.wrap ((out.length : Int) - 1) = (m : Int) := by rw [IntWalk.i64_in _ (by omega)]; omega
    have hm0 : ((0 : Int) ≤ (m : Int)) = True := eq_true (by omega)
    have hzs := hsz z (List.mem_of_getElem? hz)
    have hcat : (z.size + #[b].size ≤ 9223372036854775807) = True := eq_true (by have : #[b].size = 1 := rfl; omega)
    have hs1 : (i ≤ i + 1) = True := eq_true (by omega)
    have hs2 : (i + 1 ≤ s.size) = True := eq_true (by omega)
    have hfl : flatR (rows cStr out) := fun r hr => by
      obtain ⟨x, _, rfl⟩ := List.mem_map.1 hr
      exact ⟨.string x, rfl⟩
    have e1 : b = c → rows cStr out ++ [[PD.raw (Value.string ⟨#[]⟩)]] = rows cStr (splitR c (s.data.toList.take (i + 1))) := fun e => by
      rw [hst, stepR, if_pos e]
      simp [rows]
    have e2 : ¬ b = c → (rows cStr out).set m [PD.raw (Value.string (z ++ ⟨#[b]⟩))] = rows cStr (splitR c (s.data.toList.take (i + 1))) := fun e => by
      have h3 : out.length - 1 = m := by omega
      rw [hst, stepR, if_neg e, h3, List.getD_eq_getElem?_getD, hz, rows, rows, List.map_set]
      rfl
    rcases ht with rfl | rfl
    all_goals
      simp only [go_sem, contS_seq, simprocAttr, h1, hb, hw, rows_len, hwl, rows_get hz, hm0, byte_one hb, hcat, hs1, hs2]
      refine GifP.mk (fun he => ?_) (fun he => ?_)
    · refine ⟨by simp, by simp only [maxLen]; omega, by omega, s.size - (i + 1), _, by omega, ?_, i + 1, 21, .inr rfl, rfl, by omega, rfl⟩
      rw [e1 (by apply UInt8.toNat_inj.1; omega)]
      exact lessA
    · refine ⟨rfl, by omega, hfl, s.size - (i + 1), _, by omega, ?_, i + 1, 7, .inl rfl, rfl, by omega, rfl⟩
      rw [e2 (fun e => he (by rw [e]))]
      exact lessA
    · refine ⟨by simp, by simp only [maxLen]; omega, by omega, s.size - (i + 1), _, by omega, ?_, i + 1, 21, .inr rfl, rfl, by omega, rfl⟩
      rw [e1 (by apply UInt8.toNat_inj.1; omega)]
      exact lessA
    · refine ⟨rfl, by omega, hfl, s.size - (i + 1), _, by omega, ?_, i + 1, 21, .inr rfl, rfl, by omega, rfl⟩
      rw [e2 (fun e => he (by rw [e]))]
      exact lessA
  have h1 : ((i : Int) < (s.size : Int)) = False := eq_false (by omega)
  obtain rfl : i = s.size := by omega
  have hE : splitB c s.size s = out := by rw [← splitR_eq, ← hout, List.take_of_length_le (Nat.le_of_eq (size_list s))]
  rcases ht with rfl | rfl
  all_goals
    simp only [go_sem, contS_seq, simprocAttr, h1]
    simp only [retK, resD, St.get, lk, oneD, D.pub, D.pubs, retL, reduceIte, Nat.reduceEqDiff, Nat.reduceAdd, Nat.reduceLeDiff, Tryz.results138]
    rw [hE]
    exact ⟨_, rfl, rfl, rfl⟩

set_option maxHeartbeats 1000000 in
theorem ref1_Name (s : ByteArray) : Pure Tryz.prog 88 [str s] (fun d => d = bln (dname s)) := by
  refine pure_of_run follows an_zvp8y Tryz.func88 rfl ok_zvp8y.1 ok_zvp8y.2 (by simp [Tryz.ntmps88]) ?_
  rw [run_start]
  simp only [ac_zvp8y, oo, og, tp, ci, cq, mq, lq, fi, sr, go_sem, contS_seq, simprocAttr]
  refine GifP.mk (fun h => ?_) (fun h => ?_)
  · simp only [retK, resD, St.get, lk, oneD, D.pub, D.pubs, retL, reduceIte, Nat.reduceEqDiff, Nat.reduceAdd, Nat.reduceLeDiff, Tryz.results88]
    exact ⟨_, rfl, rfl, congrArg bln (by simp only [dname]; simp; omega)⟩
  have h60 : s.size ≤ 60 := by omega
  refine (ref1_Split s (by omega) 46 46 rfl).callW (enters_of Tryz.func138 rfl rfl) _ rfl rfl ?_
  rintro d rfl
  simp only [go_sem, contS_seq, simprocAttr]
  obtain ⟨l, hl⟩ : ∃ l, splitB 46 s.size s = l := ⟨_, rfl⟩
  have hln : l.length ≤ 61 := by
    have h1 := splitR_len 46 s.data.toList
    rw [splitR_eq, hl, size_list] at h1
    omega
  have hsz : ∀ x ∈ l, x.size ≤ 1000000 := fun x hx => by
    have h1 := splitR_size 46 s.data.toList
    rw [splitR_eq, hl, size_list] at h1
    have := h1 x hx
    omega
  rw [hl]
  refine loopS (fun k st => ∃ i : Nat, k = l.length - i ∧ i ≤ l.length ∧ (l.drop i).all label = l.all label ∧ st = ⟨[(3, .pd (.slice (rows cStr l))), (4, int i)], [], [], .no⟩) l.length _ ?_ ⟨0, rfl, by omega, rfl, rfl⟩ ?_
  · exact lessA
  rintro k st ⟨i, rfl, hi, hT, rfl⟩
  have hw := i64_succ (show i < 1000000000 by omega)
  by_cases hlt : i < l.length
  · obtain ⟨x, hx⟩ := at_lt hlt
    have h1 : ((i : Int) < (l.length : Int)) = True := eq_true (by omega)
    rw [drop_at hx, List.all_cons] at hT
    simp only [go_sem, contS_seq, simprocAttr, rows_len, rows_get hx, h1, hw]
    refine (ref1_Label x (hsz x (List.mem_of_getElem? hx))).callW (enters_of Tryz.func89 rfl rfl) _ rfl rfl ?_
    rintro d rfl
    simp only [go_sem, contS_seq, simprocAttr]
    refine Gif.mk (fun hl' => ?_) (fun hl' => ?_)
    · refine ⟨l.length - (i + 1), _, by omega, ?_, i + 1, rfl, by omega, by rw [hl', Bool.true_and] at hT; exact hT, rfl⟩
      simp only [hw]
      exact lessA
    · simp only [retK, resD, St.get, lk, oneD, D.pub, D.pubs, retL, reduceIte, Nat.reduceEqDiff, Nat.reduceAdd, Nat.reduceLeDiff, Tryz.results88]
      refine ⟨_, rfl, rfl, congrArg bln ?_⟩
      rw [hl', Bool.false_and] at hT
      simp [dname, hl, ← hT]
  have h1 : ((i : Int) < (l.length : Int)) = False := eq_false (by omega)
  rw [List.drop_eq_nil_of_le (by omega), List.all_nil] at hT
  simp only [go_sem, contS_seq, simprocAttr, rows_len, h1]
  simp only [retK, resD, St.get, lk, oneD, D.pub, D.pubs, retL, reduceIte, Nat.reduceEqDiff, Nat.reduceAdd, Nat.reduceLeDiff, Tryz.results88]
  exact ⟨_, rfl, rfl, congrArg bln (by simp [dname, hl, ← hT, h60])⟩

theorem fold_step {s : ByteArray} {i : Nat} {b : UInt8} (hb : s[i]? = some b) : octStr ((s.data.toList.take (i + 1)).map fun b => foldO b.toNat) = octStr ((s.data.toList.take i).map fun b => foldO b.toNat) ++ octStr [foldO b.toNat] := by
  rw [take_at (by rw [← bytes_get]; exact hb), List.map_append]
  unfold octStr
  rw [List.foldl_append]
  simp only [List.map_cons, List.map_nil, List.foldl_cons, List.foldl_nil]
  apply ByteArray.ext
  simp [ByteArray.push]

theorem octStr_size (l : List Int) : (octStr l).size = l.length := by
  unfold octStr
  suffices h : ∀ (l : List Int) (r : ByteArray), (l.foldl (fun r n => r.push (UInt8.ofNat n.toNat)) r).size = r.size + l.length from by simpa using h l ByteArray.empty
  intro l
  induction l with
  | nil => intro r; rfl
  | cons n l ih =>
    intro r
    rw [List.foldl_cons, ih, ByteArray.size_push, List.length_cons]
    omega

theorem low_add (n : Nat) (h : 65 ≤ n ∧ n ≤ 90) : IntKind.u8.wrap ((n : Int) + 32) = low n := by
  have h1 : ∀ k : Fin 26, IntKind.u8.wrap (((k.val + 65 : Nat) : Int) + 32) = low ((k.val + 65 : Nat) : Int) := by decide
  have h2 := h1 ⟨n - 65, by omega⟩
  have h3 : n - 65 + 65 = n := by omega
  simp only [h3] at h2
  exact h2

set_option maxHeartbeats 1000000 in
theorem ref1_Fold (s : ByteArray) (hs : s.size ≤ 1000000) : Pure Tryz.prog 218 [str s] (fun d => d = str (fold s)) := by
  refine pure_of_run follows an_z5okg Tryz.func218 rfl ok_z5okg.1 ok_z5okg.2 (by simp [Tryz.ntmps218]) ?_
  rw [run_start]
  simp only [ac_z5okg, oo, og, tp, ci, cq, mq, lq, fi, sr, go_sem, contS_seq, simprocAttr]
  refine loopS (fun k st => ∃ i : Nat, k = s.size - i ∧ i ≤ s.size ∧ st = ⟨[(0, str s), (3, str (octStr ((s.data.toList.take i).map fun b => foldO b.toNat))), (4, int i)], [], [], .no⟩) s.size _ ?_ ⟨0, rfl, by omega, rfl⟩ ?_
  · have h0 : octStr ((s.data.toList.take 0).map fun b => foldO b.toNat) = ⟨#[]⟩ := rfl
    rw [h0]
    exact lessA
  rintro k st ⟨i, rfl, hi, rfl⟩
  have hw := i64_succ (show i < 1000000000 by omega)
  by_cases hlt : i < s.size
  · obtain ⟨b, hb⟩ := at_byte hlt
    have h1 : ((i : Int) < (s.size : Int)) = True := eq_true (by omega)
    have hf := fold_step hb
    obtain ⟨r, hr⟩ : ∃ r, octStr ((s.data.toList.take i).map fun b => foldO b.toNat) = r := ⟨_, rfl⟩
    have hrs : r.size ≤ 1000000 := by rw [← hr, octStr_size, List.length_map, List.length_take]; omega
    rw [hr] at hf ⊢
    have hcat : ∀ c, (r.size + (octStr [c]).size ≤ 9223372036854775807) = True := fun c => eq_true (by rw [octStr_size]; simp only [List.length_singleton]; omega)
    have go : ∀ (c : Int) st, c = foldO b.toNat → Weak Tryz.prog st ⟨[(0, str s), (3, str (r ++ octStr [c])), (4, int (i + 1 : Nat))], [], [], .no⟩ → Round Tryz.prog (fun k st => ∃ i : Nat, k = s.size - i ∧ i ≤ s.size ∧ st = ⟨[(0, str s), (3, str (octStr ((s.data.toList.take i).map fun b => foldO b.toNat))), (4, int i)], [], [], .no⟩) (s.size - i) st := fun c st e hw => by
      subst e
      rw [← hf] at hw
      exact ⟨s.size - (i + 1), _, by omega, hw, i + 1, rfl, by omega, rfl⟩
    simp only [go_sem, contS_seq, simprocAttr, h1, hb, hw, hcat]
    repeat' (first | refine GifP.mk (fun _ => ?_) (fun _ => ?_) | refine Gif.mk (fun _ => ?_) (fun _ => ?_))
    · exact go (IntKind.u8.wrap ((b.toNat : Int) + 32)) _ (by rw [foldO, if_pos (by omega)]; exact low_add b.toNat (by omega)) (lessA)
    · exact go b.toNat _ (by rw [foldO, if_neg (by omega)]) (lessA)
    · exact go b.toNat _ (by rw [foldO, if_neg (by omega)]) (lessA)
  have h1 : ((i : Int) < (s.size : Int)) = False := eq_false (by omega)
  simp only [go_sem, contS_seq, simprocAttr, h1]
  simp only [retK, resD, St.get, lk, oneD, D.pub, D.pubs, retL, reduceIte, Nat.reduceEqDiff, Nat.reduceAdd, Nat.reduceLeDiff, Tryz.results218]
  exact ⟨_, rfl, rfl, by rw [List.take_of_length_le (by rw [size_list]; omega)]; rfl⟩


theorem hasPrefix_one (s : ByteArray) (c : UInt8) : hasPrefix s ⟨#[c]⟩ = true ↔ s[0]? = some c := by
  have h1 : (ByteArray.mk #[c]).size = 1 := rfl
  simp only [hasPrefix, Bool.and_eq_true, decide_eq_true_eq, h1]
  constructor
  · rintro ⟨h2, h3⟩
    obtain ⟨b, hb⟩ := at_byte (show 0 < s.size by omega)
    have h4 := byte_one hb
    rw [Nat.zero_add, h3] at h4
    rw [hb]
    have := congrArg (fun a : ByteArray => a.data.toList) h4
    simpa using this.symm
  · intro h
    have h2 : 0 < s.size := by
      rw [bytes_get] at h
      exact (List.getElem?_eq_some_iff.1 h).1
    exact ⟨by omega, by simpa using byte_one h⟩

theorem hasSuffix_one (s : ByteArray) (c : UInt8) : hasSuffix s ⟨#[c]⟩ = true ↔ 1 ≤ s.size ∧ s[s.size - 1]? = some c := by
  have h1 : (ByteArray.mk #[c]).size = 1 := rfl
  simp only [hasSuffix, Bool.and_eq_true, decide_eq_true_eq, h1]
  refine and_congr_right fun h2 => ?_
  have h0 : s.size - 1 + 1 = s.size := by omega
  constructor
  · intro h3
    obtain ⟨b, hb⟩ := at_byte (show s.size - 1 < s.size by omega)
    have h4 := byte_one hb
    rw [h0, h3] at h4
    rw [hb]
    have := congrArg (fun a : ByteArray => a.data.toList) h4
    simpa using this.symm
  · intro h
    have := byte_one h
    rwa [h0] at this

theorem hasPrefix_two (s : ByteArray) (c e : UInt8) : hasPrefix s ⟨#[c, e]⟩ = true ↔ 2 ≤ s.size ∧ s[0]? = some c ∧ s[1]? = some e := by
  have h1 : (ByteArray.mk #[c, e]).size = 2 := rfl
  simp only [hasPrefix, Bool.and_eq_true, decide_eq_true_eq, h1]
  refine and_congr_right fun h2 => ?_
  rw [extract_list, List.drop_zero, bytes_get, bytes_get]
  have h3 : 2 ≤ s.data.toList.length := h2
  match hl : s.data.toList with
  | [] => rw [hl] at h3; simp at h3
  | [_] => rw [hl] at h3; simp at h3
  | a :: b :: r =>
    simp only [List.take_succ_cons, List.take_zero, List.getElem?_cons_zero, List.getElem?_cons_succ, Option.some.injEq]
    constructor
    · intro h
      have := congrArg (fun a : ByteArray => a.data.toList) h
      simpa using this
    · rintro ⟨rfl, rfl⟩; rfl

def pathOct (b : UInt8) : Bool := decide (33 ≤ b.toNat) && decide (b.toNat ≤ 126) && !decide (b.toNat = 63) && !decide (b.toNat = 35)

theorem pathIs_iff (s : ByteArray) : pathIs s = true ↔ 1 ≤ s.size ∧ s.size ≤ 60 ∧ s[0]? = some 47 ∧ s.data.toList.all pathOct = true := by
  have hp : ∀ c : Int, 128 ≤ c → pathRune c = false := fun c h => by simp [pathRune]; omega
  have he : (fun b : UInt8 => pathRune b.toNat) = pathOct := by
    funext b
    rw [Bool.eq_iff_iff]
    simp [pathRune, pathOct]
    omega
  simp only [pathIs, runeAll_bytes hp s s.size 0 (by omega), List.drop_zero, he, Bool.and_eq_true, decide_eq_true_eq, hasPrefix_one]
  constructor
  · rintro ⟨⟨h1, h2⟩, h3⟩
    refine ⟨?_, h3, h2, h1⟩
    rw [bytes_get] at h2
    exact (List.getElem?_eq_some_iff.1 h2).1
  · rintro ⟨_, h3, h2, h1⟩
    exact ⟨⟨h1, h2⟩, h3⟩

theorem pathAbove_iff (s : ByteArray) : pathAbove s = true ↔ pathIs s = true ∧ (s.size = 1 ∨ s[s.size - 1]? ≠ some 47) := by
  simp only [pathAbove, Bool.and_eq_true, Bool.or_eq_true, decide_eq_true_eq, Bool.not_eq_true']
  refine and_congr_right fun h => ?_
  obtain ⟨h1, h2, h3, h4⟩ := (pathIs_iff s).1 h
  constructor
  · rintro (h5 | h5)
    · left; rw [h5]; rfl
    · right
      intro h6
      have := (hasSuffix_one s 47).2 ⟨h1, h6⟩
      rw [h5] at this; cases this
  · rintro (h5 | h5)
    · left
      have h6 := byte_one h3
      rw [Nat.zero_add] at h6
      rw [← h6, extract_list, List.drop_zero, List.take_of_length_le (by rw [size_list]; omega)]
    · right
      cases h6 : hasSuffix s ⟨#[47]⟩ with
      | false => rfl
      | true => exact absurd ((hasSuffix_one s 47).1 h6).2 h5

def tokR (b : UInt8) : Bool := ((decide (48 ≤ b.toNat) && decide (b.toNat ≤ 57)) || (decide (65 ≤ b.toNat) && decide (b.toNat ≤ 90)) || (decide (97 ≤ b.toNat) && decide (b.toNat ≤ 122))) || marks.data.toList.contains b

theorem tokR_eq (b : UInt8) : tokenOct b = tokR b := by
  have h : ∀ k : Fin 256, tokenOct (UInt8.ofNat k.val) = tokR (UInt8.ofNat k.val) := by decide +kernel
  have := h ⟨b.toNat, b.toNat_lt⟩
  simpa using this

theorem trimL_size (c : Int) : ∀ (k : Nat) (s : ByteArray), (trimL c k s).size ≤ s.size
  | 0, s => Nat.le_refl _
  | k + 1, s => by
    simp only [trimL]
    split
    · split
      · have := trimL_size c k (s.extract 1 s.size)
        rw [ByteArray.size_extract] at this
        omega
      · exact Nat.le_refl _
    · exact Nat.le_refl _

theorem trimR_size (c : Int) : ∀ (k : Nat) (s : ByteArray), (trimR c k s).size ≤ s.size
  | 0, s => Nat.le_refl _
  | k + 1, s => by
    simp only [trimR]
    split
    · split
      · have := trimR_size c k (s.extract 0 (s.size - 1))
        rw [ByteArray.size_extract] at this
        omega
      · exact Nat.le_refl _
    · exact Nat.le_refl _

theorem trim_iff (s : ByteArray) : trim s = s ↔ s[0]? ≠ some 32 ∧ s[s.size - 1]? ≠ some 32 := by
  have h32 : ∀ b : UInt8, ((b.toNat : Int) = 32) ↔ b = 32 := fun b => by
    constructor
    · intro h; apply UInt8.toNat_inj.1; have : (32 : UInt8).toNat = 32 := rfl; omega
    · rintro rfl; rfl
  rcases Nat.eq_zero_or_pos s.size with h0 | hpos
  · have : s = ⟨#[]⟩ := size0.2 h0
    subst this
    have hn : ∀ j : Nat, (⟨#[]⟩ : ByteArray)[j]? = none := fun j => by rw [bytes_get]; rfl
    rw [hn, hn]
    exact ⟨fun _ => ⟨by simp, by simp⟩, fun _ => rfl⟩
  obtain ⟨k, hk⟩ : ∃ k, s.size = k + 1 := ⟨s.size - 1, by omega⟩
  obtain ⟨b, hb⟩ := at_byte (show s.size - 1 < s.size by omega)
  obtain ⟨a, ha⟩ := at_byte hpos
  rw [hb, ha]
  by_cases hl : b = 32
  · subst hl
    have h1 : (trimR 32 s.size s).size < s.size := by
      rw [hk]
      simp only [trimR, hb]
      rw [if_pos ((h32 _).2 rfl)]
      have := trimR_size 32 k (s.extract 0 (s.size - 1))
      rw [ByteArray.size_extract] at this
      omega
    have h2 : (trim s).size < s.size := Nat.lt_of_le_of_lt (trimL_size 32 _ _) h1
    constructor
    · intro h; rw [h] at h2; omega
    · rintro ⟨_, h⟩; exact absurd rfl h
  · have h1 : trimR 32 s.size s = s := by
      rw [hk]
      simp only [trimR, hb]
      rw [if_neg (fun h => hl ((h32 _).1 h))]
    by_cases hf : a = 32
    · subst hf
      have h2 : (trim s).size < s.size := by
        unfold trim
        rw [h1, hk]
        simp only [trimL, ha]
        rw [if_pos ((h32 _).2 rfl)]
        have := trimL_size 32 k (s.extract 1 s.size)
        rw [ByteArray.size_extract] at this
        omega
      constructor
      · intro h; rw [h] at h2; omega
      · rintro ⟨h, _⟩; exact absurd rfl h
    · have h2 : trim s = s := by
        unfold trim
        rw [h1, hk]
        simp only [trimL, ha]
        rw [if_neg (fun h => hf ((h32 _).1 h))]
      simp [h2, hl, hf]

theorem fvalue_iff (s : ByteArray) : fvalue s = true ↔ s.size ≤ 40 ∧ ∀ (j : Nat) (b : UInt8), s[j]? = some b → 32 ≤ b.toNat ∧ b.toNat ≤ 126 ∧ ¬ (b.toNat = 32 ∧ (j = 0 ∨ j + 1 = s.size)) := by
  have h32 : (32 : UInt8).toNat = 32 := rfl
  simp only [fvalue, Bool.and_eq_true, decide_eq_true_eq, all_bytes, trim_iff]
  constructor
  · rintro ⟨⟨h1, h2⟩, h3, h4⟩
    refine ⟨h2, fun j b hb => ?_⟩
    have h5 := h1 j b hb
    simp only [valOct, Bool.and_eq_true, decide_eq_true_eq] at h5
    refine ⟨h5.1, h5.2, ?_⟩
    rintro ⟨h6, h7 | h7⟩
    · subst h7
      exact h3 (by rw [hb]; congr 1; exact UInt8.toNat_inj.1 (h6.trans h32.symm))
    · have : s.size - 1 = j := by omega
      exact h4 (by rw [this, hb]; congr 1; exact UInt8.toNat_inj.1 (h6.trans h32.symm))
  · rintro ⟨h1, h2⟩
    refine ⟨⟨fun j b hb => ?_, h1⟩, fun h => ?_, fun h => ?_⟩
    · have := h2 j b hb
      simp [valOct]; omega
    · exact (h2 0 _ h).2.2 ⟨rfl, .inl rfl⟩
    · have hlt : s.size - 1 < s.size := by
        rw [bytes_get] at h
        exact (List.getElem?_eq_some_iff.1 h).1
      exact (h2 _ _ h).2.2 ⟨rfl, .inr (by omega)⟩

def methOct (b : UInt8) : Bool := decide (65 ≤ b.toNat) && decide (b.toNat ≤ 90)

theorem method_iff (s : ByteArray) : method s = true ↔ 1 ≤ s.size ∧ s.size ≤ 10 ∧ s.data.toList.all methOct = true := by
  have hp : ∀ c : Int, 128 ≤ c → methodRune c = false := fun c h => by simp [methodRune]; omega
  have he : (fun b : UInt8 => methodRune b.toNat) = methOct := by
    funext b
    rw [Bool.eq_iff_iff]
    simp [methodRune, methOct]
    omega
  simp only [method, idx_none hp, he, Bool.and_eq_true, Bool.not_eq_true', decide_eq_true_eq, decide_eq_false_iff_not, size0]
  constructor
  · rintro ⟨⟨h1, h2⟩, h3⟩; exact ⟨by omega, h2, h3⟩
  · rintro ⟨h1, h2, h3⟩; exact ⟨⟨by omega, h2⟩, h3⟩

theorem tw_from {α : Type} {q : α → α → Bool} {l : List α} : ∀ {k i : Nat}, twiceFrom q l k i = false ↔ ∀ j x, i ≤ j → j < i + k → l[j]? = some x → (l.take j).any (fun y => q x y) = false
  | 0, i => by
    simp only [twiceFrom, true_iff]
    intro j x h1 h2; omega
  | k + 1, i => by
    simp only [twiceFrom, Bool.or_eq_false_iff, tw_from]
    constructor
    · rintro ⟨h1, h2⟩ j x hj hk hx
      rcases Nat.eq_or_lt_of_le hj with e | e
      · subst e; rw [hx] at h1; exact h1
      · exact h2 j x e (by omega) hx
    · intro h
      refine ⟨?_, fun j x hj hk hx => h j x (by omega) (by omega) hx⟩
      cases hx : l[i]? with
      | none => rfl
      | some x => exact h i x (Nat.le_refl _) (by omega) hx

theorem tw_iff {α : Type} {q : α → α → Bool} {l : List α} : twice q l = false ↔ ∀ (i : Nat) (x : α), l[i]? = some x → ∀ (k : Nat) (y : α), k < i → l[k]? = some y → q x y = false := by
  unfold twice
  rw [tw_from]
  constructor
  · intro h i x hx k y hk hy
    have h1 := h i x (Nat.zero_le _) (by have := (List.getElem?_eq_some_iff.1 hx).1; omega) hx
    rw [List.any_eq_false] at h1
    have := h1 y (List.mem_of_getElem? (by rw [List.getElem?_take, if_pos hk]; exact hy))
    simpa using this
  · intro h j x _ _ hx
    rw [List.any_eq_false]
    intro y hy
    obtain ⟨k, hk⟩ := List.getElem?_of_mem hy
    rw [List.getElem?_take] at hk
    split at hk
    · rename_i hkj
      simpa using h j x hx k y hkj hk
    · cases hk

theorem lessL_total : ∀ x y : List UInt8, (Op.bytesLess x y || decide (x = y)) = !Op.bytesLess y x
  | [], [] => rfl
  | [], b :: y => rfl
  | a :: x, [] => rfl
  | a :: x, b :: y => by
    have ih := lessL_total x y
    simp only [Op.bytesLess]
    by_cases h1 : a < b
    · have h2 : ¬ b < a := fun h => by have := UInt8.lt_iff_toNat_lt.1 h; have := UInt8.lt_iff_toNat_lt.1 h1; omega
      have h3 : (b == a) = false := by
        rw [beq_eq_false_iff_ne]
        rintro rfl
        exact h2 h1
      simp [h1, h2, h3]
    · by_cases h2 : b < a
      · have h3 : (a == b) = false := by
          rw [beq_eq_false_iff_ne]
          rintro rfl
          exact h1 h2
        have h4 : ¬ a = b := by simpa using h3
        simp [h1, h2, h3, h4]
      · have h3 : a = b := UInt8.toNat_inj.1 (by
          have := mt UInt8.lt_iff_toNat_lt.2 h1
          have := mt UInt8.lt_iff_toNat_lt.2 h2
          omega)
        subst h3
        simpa [h1] using ih

theorem less_total (a b : ByteArray) : (Op.bytesLess a.toList b.toList || decide (a = b)) = !Op.bytesLess b.toList a.toList := by
  rw [← lessL_total]
  congr 1
  rw [Bool.eq_iff_iff, decide_eq_true_eq, decide_eq_true_eq]
  constructor
  · rintro rfl; rfl
  · intro h
    have := bytes_eq a b
    rw [h] at this
    simpa using this


theorem bool_dec {p : Prop} [Decidable p] {b : Bool} (h : p ↔ b = true) : bln (decide p) = bln b := congrArg bln (Bool.eq_iff_iff.2 (by rw [decide_eq_true_eq]; exact h))
theorem eight {b : UInt8} {n : Nat} (hn : n < 256) : (b.toNat : Int) = n ↔ b = UInt8.ofNat n := by
  constructor
  · intro h
    apply UInt8.toNat_inj.1
    rw [UInt8.toNat_ofNat']
    omega
  · rintro rfl
    rw [UInt8.toNat_ofNat']
    omega

def wide (p : ByteArray) : Bool := hasPrefix p ⟨#[42, 46]⟩

theorem ref2_wide (p : ByteArray) : Pure Tryz.prog 139 [str p] (fun d => d = .tup [str (cutPrefix p ⟨#[42, 46]⟩), bln (wide p)]) := by
  refine pure_of_run follows an_zsoo6 Tryz.func139 rfl ok_zsoo6.1 ok_zsoo6.2 (by simp [Tryz.ntmps139]) ?_
  rw [run_start]
  have no : wide p = false → D.tup [str p, bln false] = .tup [str (cutPrefix p ⟨#[42, 46]⟩), bln (wide p)] := fun h => by
    rw [h]
    unfold wide at h
    rw [cutPrefix, h]
    rfl
  by_cases h2 : 2 ≤ p.size
  · obtain ⟨a, ha⟩ := at_byte (show 0 < p.size by omega)
    obtain ⟨b, hb⟩ := at_byte (show 1 < p.size by omega)
    have h3 : ((2 : Int) ≤ (p.size : Int)) = True := eq_true (by omega)
    have h2' : (2 ≤ p.size) = True := eq_true h2
    simp only [ac_zsoo6, oo, og, tp, ci, cq, mq, lq, fi, sr, go_sem, contS_seq, simprocAttr, h3, ha, hb, h2']
    have yes : (a.toNat : Int) = 42 → (b.toNat : Int) = 46 → wide p = true := fun e1 e2 => (hasPrefix_two p 42 46).2 ⟨h2, by rw [ha]; congr 1; exact (eight (n := 42) (by omega)).1 e1, by rw [hb]; congr 1; exact (eight (n := 46) (by omega)).1 e2⟩
    have not : ¬ ((a.toNat : Int) = 42 ∧ (b.toNat : Int) = 46) → wide p = false := fun h => by
      cases hw : wide p with
      | false => rfl
      | true =>
        obtain ⟨_, e1, e2⟩ := (hasPrefix_two p 42 46).1 hw
        rw [ha] at e1; rw [hb] at e2
        cases e1; cases e2
        exact absurd ⟨rfl, rfl⟩ h
    repeat' (first | refine GifP.mk (fun _ => ?_) (fun _ => ?_) | refine Gif.mk (fun _ => ?_) (fun _ => ?_))
    all_goals
      simp only [retK, resD, St.get, lk, oneD, D.pub, D.pubs, retL, reduceIte, Nat.reduceEqDiff, Nat.reduceAdd, Nat.reduceLeDiff, Tryz.results139]
      first
        | exact ⟨_, rfl, rfl, no (not (fun h => by omega))⟩
        | (refine ⟨_, rfl, rfl, ?_⟩
           have h4 := yes (by assumption) (by assumption)
           rw [h4]
           unfold wide at h4
           rw [cutPrefix, h4]
           rfl)
  · have h3 : ((2 : Int) ≤ (p.size : Int)) = False := eq_false (by omega)
    simp only [ac_zsoo6, oo, og, tp, ci, cq, mq, lq, fi, sr, go_sem, contS_seq, simprocAttr, h3]
    simp only [retK, resD, St.get, lk, oneD, D.pub, D.pubs, retL, reduceIte, Nat.reduceEqDiff, Nat.reduceAdd, Nat.reduceLeDiff, Tryz.results139]
    exact ⟨_, rfl, rfl, no (by
      cases hw : wide p with
      | false => rfl
      | true => exact absurd ((hasPrefix_two p 42 46).1 hw).1 h2)⟩

theorem hostMay_eq (p : ByteArray) : hostMay p = (decide (p = ⟨#[]⟩) || (decide (p.size ≤ 60) && dname (cutPrefix p ⟨#[42, 46]⟩))) := by
  have h : (hasPrefix p ⟨#[42, 46]⟩ || decide (cutPrefix p ⟨#[42, 46]⟩ = p)) = true := by
    unfold cutPrefix
    cases hasPrefix p ⟨#[42, 46]⟩ <;> simp
  rw [hostMay, h, Bool.and_true]

theorem ref2_May (p : ByteArray) : Pure Tryz.prog 91 [str p] (fun d => d = bln (hostMay p)) := by
  rw [hostMay_eq]
  refine pure_of_run follows an_z8jqh Tryz.func91 rfl ok_z8jqh.1 ok_z8jqh.2 (by simp [Tryz.ntmps91]) ?_
  rw [run_start]
  simp only [ac_z8jqh, oo, og, tp, ci, cq, mq, lq, fi, sr, go_sem, contS_seq, simprocAttr]
  (repeat' (first | (refine GifP.mk (fun _ => ?_) (fun _ => ?_)) | (refine Gif.mk (fun _ => ?_) (fun _ => ?_)) | ((first | refine (ref2_wide p).callW (enters_of Tryz.func139 rfl rfl) _ rfl rfl ?_ | refine (ref1_Name _).callW (enters_of Tryz.func88 rfl rfl) _ rfl rfl ?_); rintro _ rfl; try simp only [go_sem, contS_seq, simprocAttr]))) <;> (simp only [retK, resD, St.get, lk, oneD, D.pub, D.pubs, retL, reduceIte, Nat.reduceEqDiff, Nat.reduceAdd, Nat.reduceLeDiff, Tryz.results91]; refine ⟨_, rfl, rfl, ?_⟩; by_cases h60 : p.size ≤ 60 <;> first | (exfalso; omega) | exact congrArg bln (by simp [*]))

set_option maxHeartbeats 1000000 in
theorem ref3_Is (s : ByteArray) : Pure Tryz.prog 219 [str s] (fun d => d = bln (pathIs s)) := by
  refine pure_of_run follows an_z9wy Tryz.func219 rfl ok_z9wy.1 ok_z9wy.2 (by simp [Tryz.ntmps219]) ?_
  rw [run_start]
  by_cases h0 : s.size = 0
  · have h3 : ((s.size : Int) < 1) = True := eq_true (by omega)
    simp only [ac_z9wy, oo, og, tp, ci, cq, mq, lq, fi, sr, go_sem, contS_seq, simprocAttr, h3]
    simp only [retK, resD, St.get, lk, oneD, D.pub, D.pubs, retL, reduceIte, Nat.reduceEqDiff, Nat.reduceAdd, Nat.reduceLeDiff, Tryz.results219]
    exact ⟨_, rfl, rfl, bool_no fun e => by have := ((pathIs_iff s).1 e).1; omega⟩
  obtain ⟨a, ha⟩ := at_byte (show 0 < s.size by omega)
  have h3 : ((s.size : Int) < 1) = False := eq_false (by omega)
  have hL : 60 < s.size ∨ ¬ a.toNat = 47 → bln false = bln (pathIs s) := fun h => bool_no fun e => by
    obtain ⟨_, e1, e2, _⟩ := (pathIs_iff s).1 e
    rw [ha] at e2; cases e2
    rcases h with h | h
    · omega
    · exact h rfl
  simp only [ac_z9wy, oo, og, tp, ci, cq, mq, lq, fi, sr, go_sem, contS_seq, simprocAttr, h3, ha]
  refine GifP.mk (fun h1 => ?_) (fun h1 => ?_)
  · simp only [retK, resD, St.get, lk, oneD, D.pub, D.pubs, retL, reduceIte, Nat.reduceEqDiff, Nat.reduceAdd, Nat.reduceLeDiff, Tryz.results219]
    exact ⟨_, rfl, rfl, hL (.inl (by omega))⟩
  refine GifP.mk (fun h2 => ?_) (fun h2 => ?_)
  rotate_left
  · simp only [retK, resD, St.get, lk, oneD, D.pub, D.pubs, retL, reduceIte, Nat.reduceEqDiff, Nat.reduceAdd, Nat.reduceLeDiff, Tryz.results219]
    exact ⟨_, rfl, rfl, hL (.inr (by omega))⟩
  clear hL
  refine loopS (fun k st => ∃ i : Nat, k = s.size - i ∧ i ≤ s.size ∧ (s.data.toList.drop i).all pathOct = s.data.toList.all pathOct ∧ st = ⟨[(0, str s), (3, int i)], [], [], .no⟩) s.size _ ?_ ⟨0, rfl, by omega, rfl, rfl⟩ ?_
  · exact lessA
  rintro k st ⟨i, rfl, hi, hT, rfl⟩
  have hw := i64_succ (show i < 1000000000 by omega)
  by_cases hlt : i < s.size
  · obtain ⟨b, hb, hd⟩ := byte_at hlt
    have h4 : ((i : Int) < (s.size : Int)) = True := eq_true (by omega)
    rw [hd, List.all_cons] at hT
    have good : pathOct b = true → ∀ st, Weak Tryz.prog st ⟨[(0, str s), (3, int (i + 1 : Nat))], [], [], .no⟩ → Round Tryz.prog (fun k st => ∃ i : Nat, k = s.size - i ∧ i ≤ s.size ∧ (s.data.toList.drop i).all pathOct = s.data.toList.all pathOct ∧ st = ⟨[(0, str s), (3, int i)], [], [], .no⟩) (s.size - i) st := fun h st hw => by
      rw [h, Bool.true_and] at hT
      exact ⟨s.size - (i + 1), _, by omega, hw, i + 1, rfl, by omega, hT, rfl⟩
    have bad : pathOct b = false → bln false = bln (pathIs s) := fun h => bool_no fun e => by
      rw [h, Bool.false_and] at hT
      have := ((pathIs_iff s).1 e).2.2.2
      rw [← hT] at this; cases this
    simp only [go_sem, contS_seq, simprocAttr, h4, hb, hw]
    repeat' (first | refine GifP.mk (fun _ => ?_) (fun _ => ?_) | refine Gif.mk (fun _ => ?_) (fun _ => ?_))
    all_goals first
      | (refine good (by simp [pathOct]; omega) _ ?_; exact lessA)
      | (simp only [retK, resD, St.get, lk, oneD, D.pub, D.pubs, retL, reduceIte, Nat.reduceEqDiff, Nat.reduceAdd, Nat.reduceLeDiff, Tryz.results219]; exact ⟨_, rfl, rfl, bad (by simp [pathOct]; omega)⟩)
  have h4 : ((i : Int) < (s.size : Int)) = False := eq_false (by omega)
  rw [byte_end hlt, List.all_nil] at hT
  simp only [go_sem, contS_seq, simprocAttr, h4]
  simp only [retK, resD, St.get, lk, oneD, D.pub, D.pubs, retL, reduceIte, Nat.reduceEqDiff, Nat.reduceAdd, Nat.reduceLeDiff, Tryz.results219]
  exact ⟨_, rfl, rfl, bool_yes ((pathIs_iff s).2 ⟨by omega, by omega, by rw [ha]; congr 1; exact (eight (n := 47) (by omega)).1 (by omega), hT.symm⟩)⟩

set_option maxHeartbeats 1000000 in
theorem ref3_Above (s : ByteArray) : Pure Tryz.prog 220 [str s] (fun d => d = bln (pathAbove s)) := by
  refine pure_of_run follows an_z3bmw Tryz.func220 rfl ok_z3bmw.1 ok_z3bmw.2 (by simp [Tryz.ntmps220]) ?_
  rw [run_start]
  simp only [ac_z3bmw, oo, og, tp, ci, cq, mq, lq, fi, sr, go_sem, contS_seq, simprocAttr]
  refine (ref3_Is s).callW (enters_of Tryz.func219 rfl rfl) _ rfl rfl ?_
  rintro d rfl
  cases his : pathIs s with
  | false =>
    simp only [go_sem, contS_seq, simprocAttr]
    simp only [retK, resD, St.get, lk, oneD, D.pub, D.pubs, retL, reduceIte, Nat.reduceEqDiff, Nat.reduceAdd, Nat.reduceLeDiff, Tryz.results220]
    exact ⟨_, rfl, rfl, bool_no fun e => by rw [((pathAbove_iff s).1 e).1] at his; cases his⟩
  | true =>
    have h1 := ((pathIs_iff s).1 his).1
    have h60 := ((pathIs_iff s).1 his).2.1
    have hw1 : IntKind.i64.wrap ((s.size : Int) - 1) = (s.size : Int) - 1 := IntWalk.i64_in _ (by omega)
    obtain ⟨b, hb⟩ := at_byte (show s.size - 1 < s.size by omega)
    have h2 : ((s.size : Int) - 1).toNat = s.size - 1 := by omega
    have h3 : (0 ≤ (s.size : Int) - 1) = True := eq_true (by omega)
    simp only [go_sem, contS_seq, simprocAttr, hw1, h2, h3, hb]
    repeat' (first | refine GifP.mk (fun _ => ?_) (fun _ => ?_) | refine Gif.mk (fun _ => ?_) (fun _ => ?_))
    all_goals
      simp only [retK, resD, St.get, lk, oneD, D.pub, D.pubs, retL, reduceIte, Nat.reduceEqDiff, Nat.reduceAdd, Nat.reduceLeDiff, Tryz.results220]
      first
        | exact ⟨_, rfl, rfl, bool_yes ((pathAbove_iff s).2 ⟨his, .inl (by omega)⟩)⟩
        | (refine ⟨_, rfl, rfl, congrArg bln (Bool.eq_iff_iff.2 ?_)⟩
           rw [pathAbove_iff, hb]
           simp only [Bool.not_eq_true', decide_eq_false_iff_not]
           constructor
           · intro h
             exact ⟨his, .inr fun e => h (by cases e; rfl)⟩
           · rintro ⟨_, h⟩ h5
             rcases h with h | h
             · omega
             · exact h (by congr 1; exact (eight (n := 47) (by omega)).1 h5))

theorem ref3_May (k : Int) (v : ByteArray) : Pure Tryz.prog 180 [.agg [int k, str v]] (fun d => d = bln (pathMay k v)) := by
  refine pure_of_run follows an_zetzt Tryz.func180 rfl ok_zetzt.1 ok_zetzt.2 (by simp [Tryz.ntmps180]) ?_
  rw [run_start]
  simp only [ac_zetzt, oo, og, tp, ci, cq, mq, lq, fi, sr, go_sem, contS_seq, simprocAttr]
  (repeat' (first | (refine GifP.mk (fun _ => ?_) (fun _ => ?_)) | (refine Gif.mk (fun _ => ?_) (fun _ => ?_)) | ((first | refine (ref3_Is _).callW (enters_of Tryz.func219 rfl rfl) _ rfl rfl ?_ | refine (ref3_Above _).callW (enters_of Tryz.func220 rfl rfl) _ rfl rfl ?_); rintro _ rfl; try simp only [go_sem, contS_seq, simprocAttr]))) <;> (simp only [retK, resD, St.get, lk, oneD, D.pub, D.pubs, retL, reduceIte, Nat.reduceEqDiff, Nat.reduceAdd, Nat.reduceLeDiff, Tryz.results180]; exact ⟨_, rfl, rfl, congrArg bln (by first | rfl | (rw [Bool.eq_iff_iff]; simp only [pathMay]; simp; done) | (rw [Bool.eq_iff_iff]; simp only [pathMay]; simp; omega) | (rw [Bool.eq_iff_iff]; simp only [pathMay]; simp [*]; done) | (rw [Bool.eq_iff_iff]; simp only [pathMay]; simp [*]; omega) | (simp_all [pathMay]; done) | (exfalso; omega))⟩)

theorem pairMay_iff (p : APair) : pairMay p = true ↔ 1 ≤ p.name.size ∧ p.name.size ≤ 40 ∧ p.val.size ≤ 40 := by
  simp only [pairMay, Bool.and_eq_true, Bool.not_eq_true', decide_eq_true_eq, decide_eq_false_iff_not, size0]
  omega
theorem off_of {b : Bool} {p : Prop} (h : b = true ↔ p) (hn : ¬ p) : b = false := by cases b <;> simp_all

theorem ref4_May (l : List APair) (hl : l.length ≤ 1000000) : Pure Tryz.prog 182 [.pd (.slice (rows APair.pd l))] (fun d => d = bln (queryMay l)) := by
  refine pure_of_run follows an_z6q89 Tryz.func182 rfl ok_z6q89.1 ok_z6q89.2 (by simp [Tryz.ntmps182]) ?_
  rw [run_start]
  simp only [ac_z6q89, oo, og, tp, ci, cq, mq, lq, fi, sr, go_sem, contS_seq, simprocAttr, rows_len]
  refine loopS (fun k st => ∃ i : Nat, k = l.length - i ∧ i ≤ l.length ∧ (l.drop i).all pairMay = l.all pairMay ∧ st = ⟨[(0, .pd (.slice (rows APair.pd l))), (3, int i)], [], [], .no⟩) l.length _ ?_ ⟨0, rfl, by omega, rfl, rfl⟩ ?_
  · exact lessA
  rintro k st ⟨i, rfl, hi, hT, rfl⟩
  have hw := i64_succ (show i < 1000000000 by omega)
  by_cases hlt : i < l.length
  · obtain ⟨x, hx⟩ := at_lt hlt
    have h1 : ((i : Int) < (l.length : Int)) = True := eq_true (by omega)
    rw [drop_at hx, List.all_cons] at hT
    have good : pairMay x = true → ∀ st, Weak Tryz.prog st ⟨[(0, .pd (.slice (rows APair.pd l))), (3, int (i + 1 : Nat))], [], [], .no⟩ → Round Tryz.prog (fun k st => ∃ i : Nat, k = l.length - i ∧ i ≤ l.length ∧ (l.drop i).all pairMay = l.all pairMay ∧ st = ⟨[(0, .pd (.slice (rows APair.pd l))), (3, int i)], [], [], .no⟩) (l.length - i) st := fun h st hw => by
      rw [h, Bool.true_and] at hT
      exact ⟨l.length - (i + 1), _, by omega, hw, i + 1, rfl, by omega, hT, rfl⟩
    have bad : pairMay x = false → bln false = bln (queryMay l) := fun h => by
      rw [h, Bool.false_and] at hT
      rw [queryMay, ← hT, Bool.false_and]
    simp only [go_sem, contS_seq, simprocAttr, rows_len, rows_get hx, h1, hw]
    repeat' (first | refine GifP.mk (fun _ => ?_) (fun _ => ?_) | refine Gif.mk (fun _ => ?_) (fun _ => ?_))
    all_goals first
      | (refine good ((pairMay_iff x).2 (by omega)) _ ?_; exact lessA)
      | (simp only [retK, resD, St.get, lk, oneD, D.pub, D.pubs, retL, reduceIte, Nat.reduceEqDiff, Nat.reduceAdd, Nat.reduceLeDiff, Tryz.results182]; exact ⟨_, rfl, rfl, bad (off_of (pairMay_iff x) (by omega))⟩)
  have h1 : ((i : Int) < (l.length : Int)) = False := eq_false (by omega)
  rw [List.drop_eq_nil_of_le (by omega), List.all_nil] at hT
  simp only [go_sem, contS_seq, simprocAttr, rows_len, h1]
  simp only [retK, resD, St.get, lk, oneD, D.pub, D.pubs, retL, reduceIte, Nat.reduceEqDiff, Nat.reduceAdd, Nat.reduceLeDiff, Tryz.results182]
  exact ⟨_, rfl, rfl, bool_dec (by rw [queryMay, ← hT]; simp; omega)⟩

theorem token_iff (s : ByteArray) : token s = true ↔ 1 ≤ s.size ∧ s.size ≤ 40 ∧ s.data.toList.all tokenOct = true := by
  simp only [token, Bool.and_eq_true, Bool.not_eq_true', decide_eq_true_eq, decide_eq_false_iff_not, size0]
  constructor
  · rintro ⟨⟨h1, h2⟩, h3⟩; exact ⟨by omega, h3, h1⟩
  · rintro ⟨h1, h2, h3⟩; exact ⟨⟨h3, by omega⟩, h2⟩

set_option maxHeartbeats 4000000 in
theorem ref5_Token (s : ByteArray) (hs : s.size ≤ 1000000) : Pure Tryz.prog 183 [str s] (fun d => d = bln (token s)) := by
  refine pure_of_run follows an_zrlh7 Tryz.func183 rfl ok_zrlh7.1 ok_zrlh7.2 (by simp [Tryz.ntmps183]) ?_
  rw [run_start]
  simp only [ac_zrlh7, oo, og, tp, ci, cq, mq, lq, fi, sr, go_sem, contS_seq, simprocAttr]
  refine loopS (fun k st => ∃ i : Nat, k = s.size - i ∧ i ≤ s.size ∧ (s.data.toList.drop i).all tokenOct = s.data.toList.all tokenOct ∧ st = ⟨[(0, str s), (3, int i)], [], [], .no⟩) s.size _ ?_ ⟨0, rfl, by omega, rfl, rfl⟩ ?_
  · exact lessA
  rintro k st ⟨i, rfl, hi, hT, rfl⟩
  have hw := i64_succ (show i < 1000000000 by omega)
  by_cases hlt : i < s.size
  · obtain ⟨b, hb, hd⟩ := byte_at hlt
    have h4 : ((i : Int) < (s.size : Int)) = True := eq_true (by omega)
    rw [hd, List.all_cons] at hT
    have good : tokenOct b = true → ∀ st, Weak Tryz.prog st ⟨[(0, str s), (3, int (i + 1 : Nat))], [], [], .no⟩ → Round Tryz.prog (fun k st => ∃ i : Nat, k = s.size - i ∧ i ≤ s.size ∧ (s.data.toList.drop i).all tokenOct = s.data.toList.all tokenOct ∧ st = ⟨[(0, str s), (3, int i)], [], [], .no⟩) (s.size - i) st := fun h st hw => by
      rw [h, Bool.true_and] at hT
      exact ⟨s.size - (i + 1), _, by omega, hw, i + 1, rfl, by omega, hT, rfl⟩
    have bad : tokenOct b = false → bln false = bln (token s) := fun h => by
      rw [h, Bool.false_and] at hT
      rw [token, ← hT]
      rfl
    rw [tokR_eq] at good bad
    have hm : marks.data.toList.contains b = true ↔ ((b.toNat : Int) = 33 ∨ (b.toNat : Int) = 35 ∨ (b.toNat : Int) = 36 ∨ (b.toNat : Int) = 37 ∨ (b.toNat : Int) = 38 ∨ (b.toNat : Int) = 39 ∨ (b.toNat : Int) = 42 ∨ (b.toNat : Int) = 43 ∨ (b.toNat : Int) = 45 ∨ (b.toNat : Int) = 46 ∨ (b.toNat : Int) = 94 ∨ (b.toNat : Int) = 95 ∨ (b.toNat : Int) = 96 ∨ (b.toNat : Int) = 124 ∨ (b.toNat : Int) = 126) := by
      have h256 : ∀ k : Fin 256, marks.data.toList.contains (UInt8.ofNat k.val) = decide (k.val = 33 ∨ k.val = 35 ∨ k.val = 36 ∨ k.val = 37 ∨ k.val = 38 ∨ k.val = 39 ∨ k.val = 42 ∨ k.val = 43 ∨ k.val = 45 ∨ k.val = 46 ∨ k.val = 94 ∨ k.val = 95 ∨ k.val = 96 ∨ k.val = 124 ∨ k.val = 126) := by decide +kernel
      have h := h256 ⟨b.toNat, b.toNat_lt⟩
      dsimp only at h
      rw [UInt8.ofNat_toNat] at h
      rw [h, decide_eq_true_eq]
      omega
    have tokT : ((48 ≤ b.toNat ∧ b.toNat ≤ 57) ∨ (65 ≤ b.toNat ∧ b.toNat ≤ 90) ∨ (97 ≤ b.toNat ∧ b.toNat ≤ 122)) ∨ marks.data.toList.contains b = true → tokR b = true := fun h => by
      simp only [tokR, Bool.or_eq_true, Bool.and_eq_true, decide_eq_true_eq]
      rcases h with h | h
      · left; omega
      · exact .inr h
    have tokF : ¬ (((48 ≤ b.toNat ∧ b.toNat ≤ 57) ∨ (65 ≤ b.toNat ∧ b.toNat ≤ 90) ∨ (97 ≤ b.toNat ∧ b.toNat ≤ 122)) ∨ marks.data.toList.contains b = true) → tokR b = false := fun h => by
      rw [← Bool.not_eq_true]
      intro h'
      simp only [tokR, Bool.or_eq_true, Bool.and_eq_true, decide_eq_true_eq] at h'
      refine h ?_
      rcases h' with h' | h'
      · left; omega
      · exact .inr h'
    rw [hm] at tokT tokF
    clear hm
    simp only [go_sem, contS_seq, simprocAttr, h4, hb, hw]
    repeat' (first | refine GifP.mk (fun _ => ?_) (fun _ => ?_) | refine Gif.mk (fun _ => ?_) (fun _ => ?_))
    all_goals first
      | (refine good (tokT (by omega)) _ ?_; exact lessA)
      | (simp only [retK, resD, St.get, lk, oneD, D.pub, D.pubs, retL, reduceIte, Nat.reduceEqDiff, Nat.reduceAdd, Nat.reduceLeDiff, Tryz.results183]; exact ⟨_, rfl, rfl, bad (tokF (by omega))⟩)
  have h4 : ((i : Int) < (s.size : Int)) = False := eq_false (by omega)
  rw [byte_end hlt, List.all_nil] at hT
  simp only [go_sem, contS_seq, simprocAttr, h4]
  repeat' (first | refine GifP.mk (fun _ => ?_) (fun _ => ?_) | refine Gif.mk (fun _ => ?_) (fun _ => ?_))
  all_goals
    simp only [retK, resD, St.get, lk, oneD, D.pub, D.pubs, retL, reduceIte, Nat.reduceEqDiff, Nat.reduceAdd, Nat.reduceLeDiff, Tryz.results183]
    first
      | exact ⟨_, rfl, rfl, bool_no fun e => by obtain ⟨e1, e2, _⟩ := (token_iff s).1 e; omega⟩
      | exact ⟨_, rfl, rfl, bool_dec ⟨fun h => (token_iff s).2 ⟨by omega, by omega, hT.symm⟩, fun h => by have := ((token_iff s).1 h).2.1; omega⟩⟩


theorem snoc_all {α : Type} {l : List α} {i : Nat} {x : α} {P : Nat → α → Prop} (h : ∀ (j : Nat) (x : α), j < i → l[j]? = some x → P j x) (hx : l[i]? = some x) (hp : P i x) : ∀ (j : Nat) (x : α), j < i + 1 → l[j]? = some x → P j x := fun j y hj hy => by
  rcases Nat.lt_or_ge j i with h2 | h2
  · exact h j y h2 hy
  · obtain rfl : j = i := by omega
    rw [hx] at hy; cases hy; exact hp

theorem all_at {α : Type} {l : List α} {p : α → Bool} : l.all p = true ↔ ∀ (j : Nat) (x : α), l[j]? = some x → p x = true := by
  rw [List.all_eq_true]
  constructor
  · intro h j x hx; exact h x (List.mem_of_getElem? hx)
  · intro h x hx
    obtain ⟨j, hj⟩ := List.getElem?_of_mem hx
    exact h j x hj

theorem any_at {α : Type} {l : List α} {p : α → Bool} : l.any p = false ↔ ∀ (j : Nat) (x : α), l[j]? = some x → p x = false := by
  rw [List.any_eq_false]
  constructor
  · intro h j x hx; simpa using h x (List.mem_of_getElem? hx)
  · intro h x hx
    obtain ⟨j, hj⟩ := List.getElem?_of_mem hx
    simpa using h j x hj

set_option maxHeartbeats 1000000 in
theorem ref5_Value (s : ByteArray) (hs : s.size ≤ 1000000) : Pure Tryz.prog 184 [str s] (fun d => d = bln (fvalue s)) := by
  refine pure_of_run follows an_z86s Tryz.func184 rfl ok_z86s.1 ok_z86s.2 (by simp [Tryz.ntmps184]) ?_
  rw [run_start]
  simp only [ac_z86s, oo, og, tp, ci, cq, mq, lq, fi, sr, go_sem, contS_seq, simprocAttr]
  refine loopS (fun k st => ∃ i : Nat, k = s.size - i ∧ i ≤ s.size ∧ (∀ (j : Nat) (b : UInt8), j < i → s[j]? = some b → 32 ≤ b.toNat ∧ b.toNat ≤ 126 ∧ ¬ (b.toNat = 32 ∧ (j = 0 ∨ j + 1 = s.size))) ∧ st = ⟨[(0, str s), (3, int i)], [], [], .no⟩) s.size _ ?_ ⟨0, rfl, by omega, fun _ _ h => absurd h (Nat.not_lt_zero _), rfl⟩ ?_
  · exact lessA
  rintro k st ⟨i, rfl, hi, hT, rfl⟩
  have hw := i64_succ (show i < 1000000000 by omega)
  have hw1 : IntKind.i64.wrap ((s.size : Int) - 1) = (s.size : Int) - 1 := IntWalk.i64_in _ (by omega)
  by_cases hlt : i < s.size
  · obtain ⟨b, hb⟩ := at_byte hlt
    have h1 : ((i : Int) < (s.size : Int)) = True := eq_true (by omega)
    have bad : ¬ (32 ≤ b.toNat ∧ b.toNat ≤ 126 ∧ ¬ (b.toNat = 32 ∧ (i = 0 ∨ i + 1 = s.size))) → bln false = bln (fvalue s) := fun h => bool_no fun e => h (((fvalue_iff s).1 e).2 i b hb)
    have good : (32 ≤ b.toNat ∧ b.toNat ≤ 126 ∧ ¬ (b.toNat = 32 ∧ (i = 0 ∨ i + 1 = s.size))) → ∀ st, Weak Tryz.prog st ⟨[(0, str s), (3, int (i + 1 : Nat))], [], [], .no⟩ → Round Tryz.prog (fun k st => ∃ i : Nat, k = s.size - i ∧ i ≤ s.size ∧ (∀ (j : Nat) (b : UInt8), j < i → s[j]? = some b → 32 ≤ b.toNat ∧ b.toNat ≤ 126 ∧ ¬ (b.toNat = 32 ∧ (j = 0 ∨ j + 1 = s.size))) ∧ st = ⟨[(0, str s), (3, int i)], [], [], .no⟩) (s.size - i) st := fun h st hw =>
      ⟨s.size - (i + 1), _, by omega, hw, i + 1, rfl, by omega, fun j b' hj hb' => by
        rcases Nat.lt_or_ge j i with h2 | h2
        · exact hT j b' h2 hb'
        · obtain rfl : j = i := by omega
          rw [hb] at hb'; cases hb'; exact h, rfl⟩
    simp only [go_sem, contS_seq, simprocAttr, h1, hb, hw, hw1]
    repeat' (first | refine GifP.mk (fun _ => ?_) (fun _ => ?_) | refine Gif.mk (fun _ => ?_) (fun _ => ?_))
    all_goals first
      | (refine good (by omega) _ ?_; exact lessA)
      | (simp only [retK, resD, St.get, lk, oneD, D.pub, D.pubs, retL, reduceIte, Nat.reduceEqDiff, Nat.reduceAdd, Nat.reduceLeDiff, Tryz.results184]; exact ⟨_, rfl, rfl, bad (by omega)⟩)
  have h1 : ((i : Int) < (s.size : Int)) = False := eq_false (by omega)
  have hall : ∀ (j : Nat) (b : UInt8), s[j]? = some b → 32 ≤ b.toNat ∧ b.toNat ≤ 126 ∧ ¬ (b.toNat = 32 ∧ (j = 0 ∨ j + 1 = s.size)) := fun j b hb => hT j b (by rw [bytes_get] at hb; have := (List.getElem?_eq_some_iff.1 hb).1; rw [size_list] at this; omega) hb
  clear hw hw1 hT
  simp only [go_sem, contS_seq, simprocAttr, h1]
  simp only [retK, resD, St.get, lk, oneD, D.pub, D.pubs, retL, reduceIte, Nat.reduceEqDiff, Nat.reduceAdd, Nat.reduceLeDiff, Tryz.results184]
  exact ⟨_, rfl, rfl, bool_dec ⟨fun h => (fvalue_iff s).2 ⟨by omega, hall⟩, fun h => by have := ((fvalue_iff s).1 h).1; omega⟩⟩

theorem ref5_Same (a b : ByteArray) (ha : a.size ≤ 1000000) (hb : b.size ≤ 1000000) : Pure Tryz.prog 179 [str a, str b] (fun d => d = bln (foldSame a b)) := by
  refine pure_of_run follows an_zm0ue Tryz.func179 rfl ok_zm0ue.1 ok_zm0ue.2 (by simp [Tryz.ntmps179]) ?_
  rw [run_start]
  simp only [ac_zm0ue, oo, og, tp, ci, cq, mq, lq, fi, sr, go_sem, contS_seq, simprocAttr]
  (repeat' (first | (refine GifP.mk (fun _ => ?_) (fun _ => ?_)) | (refine Gif.mk (fun _ => ?_) (fun _ => ?_)) | ((first | refine (ref1_Fold a ha).callW (enters_of Tryz.func218 rfl rfl) _ rfl rfl ?_ | refine (ref1_Fold b hb).callW (enters_of Tryz.func218 rfl rfl) _ rfl rfl ?_); rintro _ rfl; try simp only [go_sem, contS_seq, simprocAttr]))) <;> (simp only [retK, resD, St.get, lk, oneD, D.pub, D.pubs, retL, reduceIte, Nat.reduceEqDiff, Nat.reduceAdd, Nat.reduceLeDiff, Tryz.results179]; exact ⟨_, rfl, rfl, congrArg bln (by first | rfl | (rw [Bool.eq_iff_iff]; simp only [foldSame]; simp; done) | (rw [Bool.eq_iff_iff]; simp only [foldSame]; simp; omega) | (rw [Bool.eq_iff_iff]; simp only [foldSame]; simp [*]; done) | (rw [Bool.eq_iff_iff]; simp only [foldSame]; simp [*]; omega) | (simp_all [foldSame]; done) | (exfalso; omega))⟩)

set_option maxHeartbeats 1000000 in
theorem ref6_Method (s : ByteArray) (hs : s.size ≤ 1000000) : Pure Tryz.prog 181 [str s] (fun d => d = bln (method s)) := by
  refine pure_of_run follows an_zhynl Tryz.func181 rfl ok_zhynl.1 ok_zhynl.2 (by simp [Tryz.ntmps181]) ?_
  rw [run_start]
  simp only [ac_zhynl, oo, og, tp, ci, cq, mq, lq, fi, sr, go_sem, contS_seq, simprocAttr]
  refine loopS (fun k st => ∃ i : Nat, k = s.size - i ∧ i ≤ s.size ∧ (s.data.toList.drop i).all methOct = s.data.toList.all methOct ∧ st = ⟨[(0, str s), (3, int i)], [], [], .no⟩) s.size _ ?_ ⟨0, rfl, by omega, rfl, rfl⟩ ?_
  · exact lessA
  rintro k st ⟨i, rfl, hi, hT, rfl⟩
  have hw := i64_succ (show i < 1000000000 by omega)
  by_cases hlt : i < s.size
  · obtain ⟨b, hb, hd⟩ := byte_at hlt
    have h4 : ((i : Int) < (s.size : Int)) = True := eq_true (by omega)
    rw [hd, List.all_cons] at hT
    have good : methOct b = true → ∀ st, Weak Tryz.prog st ⟨[(0, str s), (3, int (i + 1 : Nat))], [], [], .no⟩ → Round Tryz.prog (fun k st => ∃ i : Nat, k = s.size - i ∧ i ≤ s.size ∧ (s.data.toList.drop i).all methOct = s.data.toList.all methOct ∧ st = ⟨[(0, str s), (3, int i)], [], [], .no⟩) (s.size - i) st := fun h st hw => by
      rw [h, Bool.true_and] at hT
      exact ⟨s.size - (i + 1), _, by omega, hw, i + 1, rfl, by omega, hT, rfl⟩
    have bad : methOct b = false → bln false = bln (method s) := fun h => bool_no fun e => by
      rw [h, Bool.false_and] at hT
      have := ((method_iff s).1 e).2.2
      rw [← hT] at this; cases this
    simp only [go_sem, contS_seq, simprocAttr, h4, hb, hw]
    repeat' (first | refine GifP.mk (fun _ => ?_) (fun _ => ?_) | refine Gif.mk (fun _ => ?_) (fun _ => ?_))
    all_goals first
      | (refine good (by simp [methOct]; omega) _ ?_; exact lessA)
      | (simp only [retK, resD, St.get, lk, oneD, D.pub, D.pubs, retL, reduceIte, Nat.reduceEqDiff, Nat.reduceAdd, Nat.reduceLeDiff, Tryz.results181]; exact ⟨_, rfl, rfl, bad (by simp [methOct]; omega)⟩)
  have h4 : ((i : Int) < (s.size : Int)) = False := eq_false (by omega)
  rw [byte_end hlt, List.all_nil] at hT
  clear hw
  simp only [go_sem, contS_seq, simprocAttr, h4]
  repeat' (first | refine GifP.mk (fun _ => ?_) (fun _ => ?_) | refine Gif.mk (fun _ => ?_) (fun _ => ?_))
  all_goals
    simp only [retK, resD, St.get, lk, oneD, D.pub, D.pubs, retL, reduceIte, Nat.reduceEqDiff, Nat.reduceAdd, Nat.reduceLeDiff, Tryz.results181]
    first
      | exact ⟨_, rfl, rfl, bool_no fun e => by obtain ⟨e1, e2, _⟩ := (method_iff s).1 e; omega⟩
      | exact ⟨_, rfl, rfl, bool_dec ⟨fun h => (method_iff s).2 ⟨by omega, by omega, hT.symm⟩, fun h => by have := ((method_iff s).1 h).2.1; omega⟩⟩

theorem fold_sym (a b : ByteArray) : foldSame a b = foldSame b a := by
  simp only [foldSame, eq_comm]

theorem matchMay_iff (m : AMatch) : matchMay m = true ↔ (pathMay m.pkind m.pval = true ∧ (m.method = ⟨#[]⟩ ∨ method m.method = true) ∧ m.head.length ≤ 8 ∧ m.query.length ≤ 8 ∧ queryMay m.query = true) ∧
    (∀ (j : Nat) (x : APair), m.head[j]? = some x → (token x.name = true ∧ fvalue x.val = true) ∧ ∀ (k : Nat) (y : APair), k < j → m.head[k]? = some y → foldSame x.name y.name = false) ∧
    (∀ (j : Nat) (x : APair), m.query[j]? = some x → ∀ (k : Nat) (y : APair), k < j → m.query[k]? = some y → ¬ x.name = y.name) := by
  simp only [matchMay, pairTwice, Bool.and_eq_true, Bool.or_eq_true, Bool.not_eq_true', decide_eq_true_eq, any_at, tw_iff, pairOdd, Bool.or_eq_false_iff, Bool.not_eq_false', strSame, decide_eq_false_iff_not]
  constructor
  · rintro ⟨⟨⟨⟨⟨⟨⟨h1, h2⟩, h3⟩, h4⟩, h5⟩, h6⟩, h7⟩, h8⟩
    exact ⟨⟨h1, h2, h3, h6, h7⟩, fun j x hx => ⟨h4 j x hx, fun k y hk hy => by rw [fold_sym]; exact h5 j x hx k y hk hy⟩, fun j x hx k y hk hy e => h8 j x hx k y hk hy e.symm⟩
  · rintro ⟨⟨h1, h2, h3, h6, h7⟩, h4, h8⟩
    exact ⟨⟨⟨⟨⟨⟨⟨h1, h2⟩, h3⟩, fun j x hx => (h4 j x hx).1⟩, fun j x hx k y hk hy => by rw [fold_sym]; exact (h4 j x hx).2 k y hk hy⟩, h6⟩, h7⟩, fun j x hx k y hk hy e => h8 j x hx k y hk hy e.symm⟩

set_option maxHeartbeats 4000000 in
theorem ref6_May (m : AMatch) (h : m.ok) (hm : m.method.size ≤ 1000000) : Pure Tryz.prog 142 [m.d] (fun d => d = bln (matchMay m)) := by
  have hhl := h.hl
  have hql := h.ql
  refine pure_of_run follows an_z1jc9 Tryz.func142 rfl ok_z1jc9.1 ok_z1jc9.2 (by simp [Tryz.ntmps142]) ?_
  rw [run_start]
  simp only [ac_z1jc9, oo, og, tp, ci, cq, mq, lq, fi, sr, go_sem, contS_seq, simprocAttr, rows_len]
  have key : ¬ (pathMay m.pkind m.pval = true ∧ (m.method = ⟨#[]⟩ ∨ method m.method = true) ∧ m.head.length ≤ 8 ∧ m.query.length ≤ 8 ∧ queryMay m.query = true) → bln false = bln (matchMay m) := fun hn => bool_no fun e => hn ((matchMay_iff m).1 e).1
  repeat' (first | refine GifP.mk (fun _ => ?_) (fun _ => ?_) | refine Gif.mk (fun _ => ?_) (fun _ => ?_) | (refine (ref3_May m.pkind m.pval).callW (enters_of Tryz.func180 rfl rfl) _ rfl rfl ?_; rintro _ rfl; simp only [go_sem, contS_seq, simprocAttr, rows_len]) | (refine (ref6_Method m.method hm).callW (enters_of Tryz.func181 rfl rfl) _ rfl rfl ?_; rintro _ rfl; simp only [go_sem, contS_seq, simprocAttr, rows_len]) | (refine (ref4_May m.query hql).callW (enters_of Tryz.func182 rfl rfl) _ rfl rfl ?_; rintro _ rfl; simp only [go_sem, contS_seq, simprocAttr, rows_len]) | refine And.intro ?_ ?_)
  all_goals first
    | (simp only [retK, resD, St.get, lk, oneD, D.pub, D.pubs, retL, reduceIte, Nat.reduceEqDiff, Nat.reduceAdd, Nat.reduceLeDiff, Tryz.results142]; exact ⟨_, rfl, rfl, key (by first | omega | (simp_all; done) | (simp_all; omega))⟩)
    | skip
  all_goals
    have hA : pathMay m.pkind m.pval = true ∧ (m.method = ⟨#[]⟩ ∨ method m.method = true) ∧ m.head.length ≤ 8 ∧ m.query.length ≤ 8 ∧ queryMay m.query = true := by refine ⟨by assumption, by first | (left; assumption) | (right; assumption), by omega, by omega, by assumption⟩
    clear key
    refine loopS (fun k st => ∃ i : Nat, k = m.head.length - i ∧ i ≤ m.head.length ∧ (∀ (j : Nat) (x : APair), j < i → m.head[j]? = some x → (token x.name = true ∧ fvalue x.val = true) ∧ ∀ (k : Nat) (y : APair), k < (j) → m.head[k]? = some y → foldSame x.name y.name = false) ∧ st = ⟨[(1, .ptr 1 0), (3, int i)], [(1, [int m.pkind, str m.pval, str m.method, .pd (.slice (rows APair.pd m.head)), .pd (.slice (rows APair.pd m.query))])], [], .no⟩) m.head.length _ ?_ ⟨0, rfl, by omega, fun _ _ h => absurd h (Nat.not_lt_zero _), rfl⟩ ?_
    · exact lessA
    rintro k st ⟨i, rfl, hi, hT, rfl⟩
    have hw := i64_succ (show i < 1000000000 by omega)
    by_cases hlt : i < m.head.length
    · obtain ⟨x, hx⟩ := at_lt hlt
      have hmem := List.mem_of_getElem? hx
      have h1 : ((i : Int) < (m.head.length : Int)) = True := eq_true (by omega)
      have good : ((token x.name = true ∧ fvalue x.val = true) ∧ ∀ (k : Nat) (y : APair), k < i → m.head[k]? = some y → foldSame x.name y.name = false) → ∀ st, Weak Tryz.prog st ⟨[(1, .ptr 1 0), (3, int (i + 1 : Nat))], [(1, [int m.pkind, str m.pval, str m.method, .pd (.slice (rows APair.pd m.head)), .pd (.slice (rows APair.pd m.query))])], [], .no⟩ → Round Tryz.prog (fun k st => ∃ i : Nat, k = m.head.length - i ∧ i ≤ m.head.length ∧ (∀ (j : Nat) (x : APair), j < i → m.head[j]? = some x → (token x.name = true ∧ fvalue x.val = true) ∧ ∀ (k : Nat) (y : APair), k < (j) → m.head[k]? = some y → foldSame x.name y.name = false) ∧ st = ⟨[(1, .ptr 1 0), (3, int i)], [(1, [int m.pkind, str m.pval, str m.method, .pd (.slice (rows APair.pd m.head)), .pd (.slice (rows APair.pd m.query))])], [], .no⟩) (m.head.length - i) st := fun h st hw => ⟨m.head.length - (i + 1), _, by omega, hw, i + 1, rfl, by omega, snoc_all hT hx h, rfl⟩
      have bad : ¬ ((token x.name = true ∧ fvalue x.val = true) ∧ ∀ (k : Nat) (y : APair), k < i → m.head[k]? = some y → foldSame x.name y.name = false) → bln false = bln (matchMay m) := fun h => bool_no fun e => h (((matchMay_iff m).1 e).2.1 i x hx)
      simp only [go_sem, contS_seq, simprocAttr, rows_len, rows_get hx, h1, hw]
      repeat' (first | refine GifP.mk (fun _ => ?_) (fun _ => ?_) | refine Gif.mk (fun _ => ?_) (fun _ => ?_) | (refine (ref5_Token x.name (h.h x hmem).1).callW (enters_of Tryz.func183 rfl rfl) _ rfl rfl ?_; rintro _ rfl; simp only [go_sem, contS_seq, simprocAttr, rows_len, rows_get hx, hw]) | (refine (ref5_Value x.val (h.h x hmem).2).callW (enters_of Tryz.func184 rfl rfl) _ rfl rfl ?_; rintro _ rfl; simp only [go_sem, contS_seq, simprocAttr, rows_len, rows_get hx, hw]) | refine And.intro ?_ ?_)
      all_goals first
        | (simp only [retK, resD, St.get, lk, oneD, D.pub, D.pubs, retL, reduceIte, Nat.reduceEqDiff, Nat.reduceAdd, Nat.reduceLeDiff, Tryz.results142]; exact ⟨_, rfl, rfl, bad (fun h => by simp_all)⟩)
        | skip
      have htok : token x.name = true ∧ fvalue x.val = true := ⟨by assumption, by assumption⟩
      refine loopS (fun n st => ∃ k : Nat, n = i - k ∧ k ≤ i ∧ (∀ (k' : Nat) (y : APair), k' < k → m.head[k']? = some y → foldSame x.name y.name = false) ∧ st = ⟨[(1, .ptr 1 0), (3, int i), (4, int k)], [(1, [int m.pkind, str m.pval, str m.method, .pd (.slice (rows APair.pd m.head)), .pd (.slice (rows APair.pd m.query))])], [], .no⟩) i _ ?_ ⟨0, rfl, by omega, fun _ _ h => absurd h (Nat.not_lt_zero _), rfl⟩ ?_
      · exact lessA
      rintro n st ⟨k, rfl, hk, hS, rfl⟩
      have hwk := i64_succ (show k < 1000000000 by omega)
      by_cases hki : k < i
      · obtain ⟨y, hy⟩ := at_lt (show k < m.head.length by omega)
        have hmy := List.mem_of_getElem? hy
        have h2 : ((k : Int) < (i : Int)) = True := eq_true (by omega)
        have goodk : (foldSame x.name y.name = false) → ∀ st, Weak Tryz.prog st ⟨[(1, .ptr 1 0), (3, int i), (4, int (k + 1 : Nat))], [(1, [int m.pkind, str m.pval, str m.method, .pd (.slice (rows APair.pd m.head)), .pd (.slice (rows APair.pd m.query))])], [], .no⟩ → Round Tryz.prog (fun n st => ∃ k : Nat, n = i - k ∧ k ≤ i ∧ (∀ (k' : Nat) (y : APair), k' < k → m.head[k']? = some y → foldSame x.name y.name = false) ∧ st = ⟨[(1, .ptr 1 0), (3, int i), (4, int k)], [(1, [int m.pkind, str m.pval, str m.method, .pd (.slice (rows APair.pd m.head)), .pd (.slice (rows APair.pd m.query))])], [], .no⟩) (i - k) st := fun h st hw => ⟨i - (k + 1), _, by omega, hw, k + 1, rfl, by omega, snoc_all hS hy h, rfl⟩
        have badk : ¬ (foldSame x.name y.name = false) → bln false = bln (matchMay m) := fun h => bad (fun e => h (e.2 k y hki hy))
        simp only [go_sem, contS_seq, simprocAttr, rows_len, rows_get hx, rows_get hy, h2, hwk]
        repeat' (first | refine GifP.mk (fun _ => ?_) (fun _ => ?_) | refine Gif.mk (fun _ => ?_) (fun _ => ?_) | (refine (ref5_Same x.name y.name (h.h x hmem).1 (h.h y hmy).1).callX (enters_of Tryz.func179 rfl rfl) _ rfl rfl ?_; rintro _ rfl; simp only [go_sem, contS_seq, simprocAttr, rows_len, rows_get hx, rows_get hy, hwk]) | refine And.intro ?_ ?_)
        all_goals first
          | (refine goodk (by first | omega | (simp_all; done) | (simp_all; omega)) _ ?_; exact lessA)
          | (simp only [retK, resD, St.get, lk, oneD, D.pub, D.pubs, retL, reduceIte, Nat.reduceEqDiff, Nat.reduceAdd, Nat.reduceLeDiff, Tryz.results142]; exact ⟨_, rfl, rfl, badk (by first | omega | (simp_all; done) | (simp_all; omega))⟩)
      have h2 : ((k : Int) < (i : Int)) = False := eq_false (by omega)
      have hIn : ∀ (k : Nat) (y : APair), k < i → m.head[k]? = some y → foldSame x.name y.name = false := fun k' y hk' hy => hS k' y (by omega) hy
      clear hS hwk hk
      simp only [go_sem, contS_seq, simprocAttr, rows_len, rows_get hx, h2, hw]
      first | clear h2 hki k | clear h2 hki
      refine good ⟨htok, hIn⟩ _ ?_
      exact lessA
    have h1 : ((i : Int) < (m.head.length : Int)) = False := eq_false (by omega)
    have hHead : ∀ (j : Nat) (x : APair), m.head[j]? = some x → (token x.name = true ∧ fvalue x.val = true) ∧ ∀ (k : Nat) (y : APair), k < (j) → m.head[k]? = some y → foldSame x.name y.name = false := fun j x hx => hT j x (by have := (List.getElem?_eq_some_iff.1 hx).1; omega) hx
    clear hT hw hi
    simp only [go_sem, contS_seq, simprocAttr, rows_len, h1]
    first | clear h1 hlt i | clear h1 hlt
    refine loopS (fun k st => ∃ i : Nat, k = m.query.length - i ∧ i ≤ m.query.length ∧ (∀ (j : Nat) (x : APair), j < i → m.query[j]? = some x → ∀ (k : Nat) (y : APair), k < (j) → m.query[k]? = some y → ¬ x.name = y.name) ∧ st = ⟨[(1, .ptr 1 0), (5, int i)], [(1, [int m.pkind, str m.pval, str m.method, .pd (.slice (rows APair.pd m.head)), .pd (.slice (rows APair.pd m.query))])], [], .no⟩) m.query.length _ ?_ ⟨0, rfl, by omega, fun _ _ h => absurd h (Nat.not_lt_zero _), rfl⟩ ?_
    · exact lessA
    rintro k st ⟨i, rfl, hi, hT, rfl⟩
    have hw := i64_succ (show i < 1000000000 by omega)
    by_cases hlt : i < m.query.length
    · obtain ⟨x, hx⟩ := at_lt hlt
      have hmem := List.mem_of_getElem? hx
      have h1 : ((i : Int) < (m.query.length : Int)) = True := eq_true (by omega)
      have good : (∀ (k : Nat) (y : APair), k < i → m.query[k]? = some y → ¬ x.name = y.name) → ∀ st, Weak Tryz.prog st ⟨[(1, .ptr 1 0), (5, int (i + 1 : Nat))], [(1, [int m.pkind, str m.pval, str m.method, .pd (.slice (rows APair.pd m.head)), .pd (.slice (rows APair.pd m.query))])], [], .no⟩ → Round Tryz.prog (fun k st => ∃ i : Nat, k = m.query.length - i ∧ i ≤ m.query.length ∧ (∀ (j : Nat) (x : APair), j < i → m.query[j]? = some x → ∀ (k : Nat) (y : APair), k < (j) → m.query[k]? = some y → ¬ x.name = y.name) ∧ st = ⟨[(1, .ptr 1 0), (5, int i)], [(1, [int m.pkind, str m.pval, str m.method, .pd (.slice (rows APair.pd m.head)), .pd (.slice (rows APair.pd m.query))])], [], .no⟩) (m.query.length - i) st := fun h st hw => ⟨m.query.length - (i + 1), _, by omega, hw, i + 1, rfl, by omega, snoc_all hT hx h, rfl⟩
      have bad : ¬ (∀ (k : Nat) (y : APair), k < i → m.query[k]? = some y → ¬ x.name = y.name) → bln false = bln (matchMay m) := fun h => bool_no fun e => h (((matchMay_iff m).1 e).2.2 i x hx)
      simp only [go_sem, contS_seq, simprocAttr, rows_len, rows_get hx, h1, hw]
      refine loopS (fun n st => ∃ k : Nat, n = i - k ∧ k ≤ i ∧ (∀ (k' : Nat) (y : APair), k' < k → m.query[k']? = some y → ¬ x.name = y.name) ∧ st = ⟨[(1, .ptr 1 0), (5, int i), (6, int k)], [(1, [int m.pkind, str m.pval, str m.method, .pd (.slice (rows APair.pd m.head)), .pd (.slice (rows APair.pd m.query))])], [], .no⟩) i _ ?_ ⟨0, rfl, by omega, fun _ _ h => absurd h (Nat.not_lt_zero _), rfl⟩ ?_
      · exact lessA
      rintro n st ⟨k, rfl, hk, hS, rfl⟩
      have hwk := i64_succ (show k < 1000000000 by omega)
      by_cases hki : k < i
      · obtain ⟨y, hy⟩ := at_lt (show k < m.query.length by omega)
        have hmy := List.mem_of_getElem? hy
        have h2 : ((k : Int) < (i : Int)) = True := eq_true (by omega)
        have goodk : (¬ x.name = y.name) → ∀ st, Weak Tryz.prog st ⟨[(1, .ptr 1 0), (5, int i), (6, int (k + 1 : Nat))], [(1, [int m.pkind, str m.pval, str m.method, .pd (.slice (rows APair.pd m.head)), .pd (.slice (rows APair.pd m.query))])], [], .no⟩ → Round Tryz.prog (fun n st => ∃ k : Nat, n = i - k ∧ k ≤ i ∧ (∀ (k' : Nat) (y : APair), k' < k → m.query[k']? = some y → ¬ x.name = y.name) ∧ st = ⟨[(1, .ptr 1 0), (5, int i), (6, int k)], [(1, [int m.pkind, str m.pval, str m.method, .pd (.slice (rows APair.pd m.head)), .pd (.slice (rows APair.pd m.query))])], [], .no⟩) (i - k) st := fun h st hw => ⟨i - (k + 1), _, by omega, hw, k + 1, rfl, by omega, snoc_all hS hy h, rfl⟩
        have badk : ¬ (¬ x.name = y.name) → bln false = bln (matchMay m) := fun h => bad (fun e => h (e k y hki hy))
        simp only [go_sem, contS_seq, simprocAttr, rows_len, rows_get hx, rows_get hy, h2, hwk]
        repeat' (first | refine GifP.mk (fun _ => ?_) (fun _ => ?_) | refine Gif.mk (fun _ => ?_) (fun _ => ?_) | refine And.intro ?_ ?_)
        all_goals first
          | (refine goodk (by first | omega | (simp_all; done) | (simp_all; omega)) _ ?_; exact lessA)
          | (simp only [retK, resD, St.get, lk, oneD, D.pub, D.pubs, retL, reduceIte, Nat.reduceEqDiff, Nat.reduceAdd, Nat.reduceLeDiff, Tryz.results142]; exact ⟨_, rfl, rfl, badk (by first | omega | (simp_all; done) | (simp_all; omega))⟩)
      have h2 : ((k : Int) < (i : Int)) = False := eq_false (by omega)
      have hIn : ∀ (k : Nat) (y : APair), k < i → m.query[k]? = some y → ¬ x.name = y.name := fun k' y hk' hy => hS k' y (by omega) hy
      clear hS hwk hk
      simp only [go_sem, contS_seq, simprocAttr, rows_len, rows_get hx, h2, hw]
      first | clear h2 hki k | clear h2 hki
      refine good hIn _ ?_
      exact lessA
    have h1 : ((i : Int) < (m.query.length : Int)) = False := eq_false (by omega)
    have hQuery : ∀ (j : Nat) (x : APair), m.query[j]? = some x → ∀ (k : Nat) (y : APair), k < (j) → m.query[k]? = some y → ¬ x.name = y.name := fun j x hx => hT j x (by have := (List.getElem?_eq_some_iff.1 hx).1; omega) hx
    clear hT hw hi
    simp only [go_sem, contS_seq, simprocAttr, rows_len, h1]
    first | clear h1 hlt i | clear h1 hlt
    simp only [retK, resD, St.get, lk, oneD, D.pub, D.pubs, retL, reduceIte, Nat.reduceEqDiff, Nat.reduceAdd, Nat.reduceLeDiff, Tryz.results142]
    exact ⟨_, rfl, rfl, bool_yes ((matchMay_iff m).2 ⟨hA, hHead, hQuery⟩)⟩


theorem ref7_turns (f : AFilter) : Pure Tryz.prog 217 [f.d] (fun d => d = bln (fturns f)) := by
  refine pure_of_run follows an_zarsw Tryz.func217 rfl ok_zarsw.1 ok_zarsw.2 (by simp [Tryz.ntmps217]) ?_
  rw [run_start]
  simp only [ac_zarsw, oo, og, tp, ci, cq, mq, lq, fi, sr, go_sem, contS_seq, simprocAttr]
  (repeat' (first | (refine GifP.mk (fun _ => ?_) (fun _ => ?_)) | (refine Gif.mk (fun _ => ?_) (fun _ => ?_)) | ((first | refine (ref1_Name _).callW (enters_of Tryz.func88 rfl rfl) _ rfl rfl ?_ | refine (ref3_Is _).callW (enters_of Tryz.func219 rfl rfl) _ rfl rfl ?_ | refine (ref3_Above _).callW (enters_of Tryz.func220 rfl rfl) _ rfl rfl ?_); rintro _ rfl; try simp only [go_sem, contS_seq, simprocAttr]))) <;> (simp only [retK, resD, St.get, lk, oneD, D.pub, D.pubs, retL, reduceIte, Nat.reduceEqDiff, Nat.reduceAdd, Nat.reduceLeDiff, Tryz.results217]; exact ⟨_, rfl, rfl, congrArg bln (by simp_all [fturns, pathMay, pathAbove])⟩)

theorem app_empty (a b : ByteArray) : a ++ b = ⟨#[]⟩ ↔ a = ⟨#[]⟩ ∧ b = ⟨#[]⟩ := by
  rw [size0, size0, size0, ByteArray.size_append]
  omega

set_option maxHeartbeats 4000000 in
theorem ref7_May (f : AFilter) (h : f.ok) (hs : f.host.size ≤ 1000000 ∧ f.path.size ≤ 1000000) : Pure Tryz.prog 178 [f.d] (fun d => d = bln (filterMay f)) := by
  have hcat : (f.host.size + f.path.size ≤ 9223372036854775807) = True := eq_true (by omega)
  refine pure_of_run follows an_z6xll Tryz.func178 rfl ok_z6xll.1 ok_z6xll.2 (by simp [Tryz.ntmps178]) ?_
  rw [run_start]
  simp only [ac_z6xll, oo, og, tp, ci, cq, mq, lq, fi, sr, go_sem, contS_seq, simprocAttr, hcat]
  (repeat' (first | (refine GifP.mk (fun _ => ?_) (fun _ => ?_)) | (refine Gif.mk (fun _ => ?_) (fun _ => ?_)) | ((first | refine (ref5_Token _ h.1).callW (enters_of Tryz.func183 rfl rfl) _ rfl rfl ?_ | refine (ref5_Value _ h.2).callW (enters_of Tryz.func184 rfl rfl) _ rfl rfl ?_ | refine (ref7_turns f).callW (enters_of Tryz.func217 rfl rfl) _ rfl rfl ?_); rintro _ rfl; try simp only [go_sem, contS_seq, simprocAttr, hcat]))) <;> (simp only [retK, resD, St.get, lk, oneD, D.pub, D.pubs, retL, reduceIte, Nat.reduceEqDiff, Nat.reduceAdd, Nat.reduceLeDiff, Tryz.results178]; exact ⟨_, rfl, rfl, congrArg bln (by simp_all [filterMay, fzero, app_empty] <;> (intros; omega))⟩)

theorem filters_from {l : List AFilter} : ∀ {k i : Nat}, filtersFrom l k i = true ↔ ∀ (j : Nat) (x : AFilter), i ≤ j → j < i + k → l[j]? = some x → filterMay x = true ∧ (l.take j).any (likeF x) = false
  | 0, i => by
    simp only [filtersFrom, true_iff]
    intro j x h1 h2; omega
  | k + 1, i => by
    simp only [filtersFrom, Bool.and_eq_true, filters_from]
    constructor
    · rintro ⟨h1, h2⟩ j x hj hk hx
      rcases Nat.eq_or_lt_of_le hj with e | e
      · subst e; rw [hx] at h1; simpa using h1
      · exact h2 j x e (by omega) hx
    · intro h
      refine ⟨?_, fun j x hj hk hx => h j x (by omega) (by omega) hx⟩
      cases hx : l[i]? with
      | none => rfl
      | some x => simpa using h i x (Nat.le_refl _) (by omega) hx

def turning (f : AFilter) : Bool := decide (3 < f.kind)

theorem turner_of {f : AFilter} (h : filterMay f = true) : fturner f = turning f := by
  unfold filterMay at h
  simp only [fturner, turning]
  rw [Bool.eq_iff_iff]
  simp only [Bool.or_eq_true, decide_eq_true_eq]
  repeat' split at h
  all_goals first | omega | cases h

theorem count_one {α : Type} {p : α → Bool} : ∀ {l : List α}, l.countP p ≤ 1 ↔ l.Pairwise (fun a b => ¬ (p a = true ∧ p b = true))
  | [] => by simp
  | a :: l => by
    rw [List.pairwise_cons, ← count_one (l := l)]
    by_cases ha : p a = true
    · rw [List.countP_cons_of_pos ha]
      have h0 : l.countP p = 0 ↔ ∀ b ∈ l, ¬ (p a = true ∧ p b = true) := by
        rw [List.countP_eq_zero]
        simp [ha]
      rw [← h0]
      omega
    · rw [List.countP_cons_of_neg ha]
      simp [ha]

theorem filtersAll_iff (l : List AFilter) : filtersAll l = true ↔ (l.countP turning ≤ 1 ∧ l.length ≤ 8) ∧
    ∀ (j : Nat) (x : AFilter), l[j]? = some x → filterMay x = true ∧ ∀ (k : Nat) (y : AFilter), k < j → l[k]? = some y → ¬ (y.kind = x.kind ∧ foldSame y.name x.name = true) := by
  simp only [filtersAll, Bool.and_eq_true, decide_eq_true_eq, filters_from]
  have hpw : l.countP turning ≤ 1 ↔ ∀ (j : Nat) (x : AFilter), l[j]? = some x → ∀ (k : Nat) (y : AFilter), k < j → l[k]? = some y → ¬ (turning y = true ∧ turning x = true) := by
    rw [count_one, List.pairwise_iff_getElem]
    constructor
    · intro h j x hx k y hk hy
      obtain ⟨h1, rfl⟩ := List.getElem?_eq_some_iff.1 hx
      obtain ⟨h2, rfl⟩ := List.getElem?_eq_some_iff.1 hy
      exact h k j h2 h1 hk
    · intro h k j h2 h1 hk
      exact h j _ (List.getElem?_eq_getElem h1) k _ hk (List.getElem?_eq_getElem h2)
  rw [hpw]
  have hany : ∀ (j : Nat) (x : AFilter), (l.take j).any (likeF x) = false ↔ ∀ (k : Nat) (y : AFilter), k < j → l[k]? = some y → likeF x y = false := fun j x => by
    rw [any_at]
    constructor
    · intro h k y hk hy
      exact h k y (by rw [List.getElem?_take, if_pos hk]; exact hy)
    · intro h k y hy
      rw [List.getElem?_take] at hy
      split at hy
      · exact h k y (by assumption) hy
      · cases hy
  constructor
  · rintro ⟨h1, h2⟩
    have h3 : ∀ (j : Nat) (x : AFilter), l[j]? = some x → filterMay x = true ∧ ∀ (k : Nat) (y : AFilter), k < j → l[k]? = some y → likeF x y = false := fun j x hx => by
      have h4 := h1 j x (Nat.zero_le _) (by have := (List.getElem?_eq_some_iff.1 hx).1; omega) hx
      exact ⟨h4.1, (hany j x).1 h4.2⟩
    refine ⟨⟨fun j x hx k y hk hy e => ?_, h2⟩, fun j x hx => ⟨(h3 j x hx).1, fun k y hk hy e => ?_⟩⟩
    · have h5 := (h3 j x hx).2 k y hk hy
      rw [likeF, turner_of (h3 j x hx).1, turner_of (h3 k y hy).1, e.1, e.2] at h5
      simp at h5
    · have h5 := (h3 j x hx).2 k y hk hy
      rw [likeF, e.2] at h5
      simp [e.1] at h5
  · rintro ⟨⟨h1, h2⟩, h3⟩
    refine ⟨fun j x _ _ hx => ⟨(h3 j x hx).1, (hany j x).2 fun k y hk hy => ?_⟩, h2⟩
    have h4 := (h3 j x hx).2 k y hk hy
    have h5 := h1 j x hx k y hk hy
    rw [likeF, turner_of (h3 j x hx).1, turner_of (h3 k y hy).1]
    cases ht : turning y <;> cases ht' : turning x <;> cases hf : foldSame y.name x.name <;> simp_all

set_option maxHeartbeats 4000000 in
theorem ref7_All (l : List AFilter) (hl : l.length ≤ 1000000) (h : ∀ f ∈ l, f.ok) (hs : ∀ f ∈ l, f.host.size ≤ 1000000 ∧ f.path.size ≤ 1000000) : Pure Tryz.prog 141 [.pd (.slice (rows AFilter.pd l))] (fun d => d = bln (filtersAll l)) := by
  refine pure_of_run follows an_z3gij Tryz.func141 rfl ok_z3gij.1 ok_z3gij.2 (by simp [Tryz.ntmps141]) ?_
  rw [run_start]
  simp only [ac_z3gij, oo, og, tp, ci, cq, mq, lq, fi, sr, go_sem, contS_seq, simprocAttr, rows_len]
  refine loopS (fun k st => ∃ i : Nat, k = l.length - i ∧ i ≤ l.length ∧ (∀ (j : Nat) (x : AFilter), j < i → l[j]? = some x → filterMay x = true ∧ ∀ (k : Nat) (y : AFilter), k < (j) → l[k]? = some y → ¬ (y.kind = x.kind ∧ foldSame y.name x.name = true)) ∧ st = ⟨[(0, .pd (.slice (rows AFilter.pd l))), (3, int ((l.take i).countP turning : Nat)), (4, int i)], [], [], .no⟩) l.length _ ?_ ⟨0, rfl, by omega, fun _ _ h => absurd h (Nat.not_lt_zero _), rfl⟩ ?_
  · exact lessA
  rintro k st ⟨i, rfl, hi, hT, rfl⟩
  have hw := i64_succ (show i < 1000000000 by omega)
  obtain ⟨c, hc⟩ : ∃ c, (l.take i).countP turning = c := ⟨_, rfl⟩
  have hcl : c ≤ i := by
    rw [← hc]
    have := List.countP_le_length (p := turning) (l := l.take i)
    rw [List.length_take] at this
    omega
  have hwc := i64_succ (show c < 1000000000 by omega)
  by_cases hlt : i < l.length
  · obtain ⟨x, hx⟩ := at_lt hlt
    have hmem := List.mem_of_getElem? hx
    have h1 : ((i : Int) < (l.length : Int)) = True := eq_true (by omega)
    have hst : (l.take (i + 1)).countP turning = c + (if turning x = true then 1 else 0) := by
      rw [take_at hx, List.countP_append, hc, List.countP_singleton]
    have bad : ¬ (filterMay x = true ∧ ∀ (k : Nat) (y : AFilter), k < i → l[k]? = some y → ¬ (y.kind = x.kind ∧ foldSame y.name x.name = true)) → bln false = bln (filtersAll l) := fun h => bool_no fun e => h (((filtersAll_iff l).1 e).2 i x hx)
    have good : (filterMay x = true ∧ ∀ (k : Nat) (y : AFilter), k < i → l[k]? = some y → ¬ (y.kind = x.kind ∧ foldSame y.name x.name = true)) → ∀ c' st, c' = c + (if turning x = true then 1 else 0) → Weak Tryz.prog st ⟨[(0, .pd (.slice (rows AFilter.pd l))), (3, int (c' : Nat)), (4, int (i + 1 : Nat))], [], [], .no⟩ → Round Tryz.prog (fun k st => ∃ i : Nat, k = l.length - i ∧ i ≤ l.length ∧ (∀ (j : Nat) (x : AFilter), j < i → l[j]? = some x → filterMay x = true ∧ ∀ (k : Nat) (y : AFilter), k < (j) → l[k]? = some y → ¬ (y.kind = x.kind ∧ foldSame y.name x.name = true)) ∧ st = ⟨[(0, .pd (.slice (rows AFilter.pd l))), (3, int ((l.take i).countP turning : Nat)), (4, int i)], [], [], .no⟩) (l.length - i) st := fun h c' st hc' hw =>
      ⟨l.length - (i + 1), _, by omega, hw, i + 1, rfl, by omega, snoc_all hT hx h, by rw [hst, ← hc']⟩
    rw [hc]
    simp only [go_sem, contS_seq, simprocAttr, rows_len, rows_get hx, h1, hw]
    refine (ref7_May x (h x hmem) (hs x hmem)).callW (enters_of Tryz.func178 rfl rfl) _ rfl rfl ?_
    rintro _ rfl
    simp only [go_sem, contS_seq, simprocAttr, rows_len, rows_get hx, hw]
    refine Gif.mk (fun hmay => ?_) (fun hmay => ?_)
    rotate_left
    · simp only [retK, resD, St.get, lk, oneD, D.pub, D.pubs, retL, reduceIte, Nat.reduceEqDiff, Nat.reduceAdd, Nat.reduceLeDiff, Tryz.results141]
      exact ⟨_, rfl, rfl, bad (fun e => by rw [e.1] at hmay; cases hmay)⟩
    refine GifP.mk (fun htn => ?_) (fun htn => ?_)
    · have ht : turning x = true := decide_eq_true htn
      obtain ⟨c', hc'⟩ : ∃ c', c' = c + 1 := ⟨_, rfl⟩
      simp only [hwc, ← hc']
      refine loopS (fun n st => ∃ k : Nat, n = i - k ∧ k ≤ i ∧ (∀ (k' : Nat) (y : AFilter), k' < k → l[k']? = some y → ¬ (y.kind = x.kind ∧ foldSame y.name x.name = true)) ∧ st = ⟨[(0, .pd (.slice (rows AFilter.pd l))), (3, int c'), (4, int i), (5, int k)], [], [], .no⟩) i _ ?_ ⟨0, rfl, by omega, fun _ _ h => absurd h (Nat.not_lt_zero _), rfl⟩ ?_
      · exact lessA
      rintro n st ⟨k, rfl, hk, hS, rfl⟩
      have hwk := i64_succ (show k < 1000000000 by omega)
      by_cases hki : k < i
      · obtain ⟨y, hy⟩ := at_lt (show k < l.length by omega)
        have hmy := List.mem_of_getElem? hy
        have h2 : ((k : Int) < (i : Int)) = True := eq_true (by omega)
        have goodk : (¬ (y.kind = x.kind ∧ foldSame y.name x.name = true)) → ∀ st, Weak Tryz.prog st ⟨[(0, .pd (.slice (rows AFilter.pd l))), (3, int c'), (4, int i), (5, int (k + 1 : Nat))], [], [], .no⟩ → Round Tryz.prog (fun n st => ∃ k : Nat, n = i - k ∧ k ≤ i ∧ (∀ (k' : Nat) (y : AFilter), k' < k → l[k']? = some y → ¬ (y.kind = x.kind ∧ foldSame y.name x.name = true)) ∧ st = ⟨[(0, .pd (.slice (rows AFilter.pd l))), (3, int c'), (4, int i), (5, int k)], [], [], .no⟩) (i - k) st := fun h st hw => ⟨i - (k + 1), _, by omega, hw, k + 1, rfl, by omega, snoc_all hS hy h, rfl⟩
        have badk : ¬ (¬ (y.kind = x.kind ∧ foldSame y.name x.name = true)) → bln false = bln (filtersAll l) := fun h => bad (fun e => h (e.2 k y hki hy))
        simp only [go_sem, contS_seq, simprocAttr, rows_len, rows_get hx, rows_get hy, h2, hwk]
        repeat' (first | refine GifP.mk (fun _ => ?_) (fun _ => ?_) | refine Gif.mk (fun _ => ?_) (fun _ => ?_) | (refine (ref5_Same y.name x.name (h y hmy).1 (h x hmem).1).callX (enters_of Tryz.func179 rfl rfl) _ rfl rfl ?_; rintro _ rfl; simp only [go_sem, contS_seq, simprocAttr, rows_len, rows_get hx, rows_get hy, hwk]) | refine And.intro ?_ ?_)
        all_goals first
          | (refine goodk (by first | omega | (simp_all; done) | (simp_all; omega)) _ ?_; exact lessA)
          | (simp only [retK, resD, St.get, lk, oneD, D.pub, D.pubs, retL, reduceIte, Nat.reduceEqDiff, Nat.reduceAdd, Nat.reduceLeDiff, Tryz.results141]; exact ⟨_, rfl, rfl, badk (by first | omega | (simp_all; done) | (simp_all; omega))⟩)
      have h2 : ((k : Int) < (i : Int)) = False := eq_false (by omega)
      have hIn : ∀ (k : Nat) (y : AFilter), k < i → l[k]? = some y → ¬ (y.kind = x.kind ∧ foldSame y.name x.name = true) := fun k' y hk' hy => hS k' y (by omega) hy
      clear hS hwk hk
      simp only [go_sem, contS_seq, simprocAttr, rows_len, rows_get hx, h2, hw]
      first | clear h2 hki k | clear h2 hki

      refine good ⟨hmay, hIn⟩ c' _ (by rw [ht, hc']; rfl) ?_
      exact lessA
    · have ht : turning x = false := decide_eq_false htn
      refine loopS (fun n st => ∃ k : Nat, n = i - k ∧ k ≤ i ∧ (∀ (k' : Nat) (y : AFilter), k' < k → l[k']? = some y → ¬ (y.kind = x.kind ∧ foldSame y.name x.name = true)) ∧ st = ⟨[(0, .pd (.slice (rows AFilter.pd l))), (3, int c), (4, int i), (5, int k)], [], [], .no⟩) i _ ?_ ⟨0, rfl, by omega, fun _ _ h => absurd h (Nat.not_lt_zero _), rfl⟩ ?_
      · exact lessA
      rintro n st ⟨k, rfl, hk, hS, rfl⟩
      have hwk := i64_succ (show k < 1000000000 by omega)
      by_cases hki : k < i
      · obtain ⟨y, hy⟩ := at_lt (show k < l.length by omega)
        have hmy := List.mem_of_getElem? hy
        have h2 : ((k : Int) < (i : Int)) = True := eq_true (by omega)
        have goodk : (¬ (y.kind = x.kind ∧ foldSame y.name x.name = true)) → ∀ st, Weak Tryz.prog st ⟨[(0, .pd (.slice (rows AFilter.pd l))), (3, int c), (4, int i), (5, int (k + 1 : Nat))], [], [], .no⟩ → Round Tryz.prog (fun n st => ∃ k : Nat, n = i - k ∧ k ≤ i ∧ (∀ (k' : Nat) (y : AFilter), k' < k → l[k']? = some y → ¬ (y.kind = x.kind ∧ foldSame y.name x.name = true)) ∧ st = ⟨[(0, .pd (.slice (rows AFilter.pd l))), (3, int c), (4, int i), (5, int k)], [], [], .no⟩) (i - k) st := fun h st hw => ⟨i - (k + 1), _, by omega, hw, k + 1, rfl, by omega, snoc_all hS hy h, rfl⟩
        have badk : ¬ (¬ (y.kind = x.kind ∧ foldSame y.name x.name = true)) → bln false = bln (filtersAll l) := fun h => bad (fun e => h (e.2 k y hki hy))
        simp only [go_sem, contS_seq, simprocAttr, rows_len, rows_get hx, rows_get hy, h2, hwk]
        repeat' (first | refine GifP.mk (fun _ => ?_) (fun _ => ?_) | refine Gif.mk (fun _ => ?_) (fun _ => ?_) | (refine (ref5_Same y.name x.name (h y hmy).1 (h x hmem).1).callX (enters_of Tryz.func179 rfl rfl) _ rfl rfl ?_; rintro _ rfl; simp only [go_sem, contS_seq, simprocAttr, rows_len, rows_get hx, rows_get hy, hwk]) | refine And.intro ?_ ?_)
        all_goals first
          | (refine goodk (by first | omega | (simp_all; done) | (simp_all; omega)) _ ?_; exact lessA)
          | (simp only [retK, resD, St.get, lk, oneD, D.pub, D.pubs, retL, reduceIte, Nat.reduceEqDiff, Nat.reduceAdd, Nat.reduceLeDiff, Tryz.results141]; exact ⟨_, rfl, rfl, badk (by first | omega | (simp_all; done) | (simp_all; omega))⟩)
      have h2 : ((k : Int) < (i : Int)) = False := eq_false (by omega)
      have hIn : ∀ (k : Nat) (y : AFilter), k < i → l[k]? = some y → ¬ (y.kind = x.kind ∧ foldSame y.name x.name = true) := fun k' y hk' hy => hS k' y (by omega) hy
      clear hS hwk hk
      simp only [go_sem, contS_seq, simprocAttr, rows_len, rows_get hx, h2, hw]
      first | clear h2 hki k | clear h2 hki

      refine good ⟨hmay, hIn⟩ c _ (by rw [ht]; rfl) ?_
      exact lessA
  have h1 : ((i : Int) < (l.length : Int)) = False := eq_false (by omega)
  have hall : ∀ (j : Nat) (x : AFilter), l[j]? = some x → filterMay x = true ∧ ∀ (k : Nat) (y : AFilter), k < (j) → l[k]? = some y → ¬ (y.kind = x.kind ∧ foldSame y.name x.name = true) := fun j x hx => hT j x (by have := (List.getElem?_eq_some_iff.1 hx).1; omega) hx
  rw [List.take_of_length_le (by omega)] at hc ⊢
  rw [hc]
  clear hT hw hwc
  simp only [go_sem, contS_seq, simprocAttr, rows_len, h1]
  repeat' (first | refine GifP.mk (fun _ => ?_) (fun _ => ?_) | refine Gif.mk (fun _ => ?_) (fun _ => ?_))
  all_goals
    simp only [retK, resD, St.get, lk, oneD, D.pub, D.pubs, retL, reduceIte, Nat.reduceEqDiff, Nat.reduceAdd, Nat.reduceLeDiff, Tryz.results141]
    first
      | exact ⟨_, rfl, rfl, bool_no fun e => by have := ((filtersAll_iff l).1 e).1.1; rw [hc] at this; omega⟩
      | exact ⟨_, rfl, rfl, bool_dec ⟨fun h => (filtersAll_iff l).2 ⟨⟨by rw [hc]; omega, by omega⟩, hall⟩, fun h => by have := ((filtersAll_iff l).1 h).1.2; omega⟩⟩


theorem ref8_value (s : ByteArray) (hs : s.size ≤ 1000000) : Pure Tryz.prog 90 [str s] (fun d => d = bln (labValue s)) := by
  refine pure_of_run follows an_z1s4w Tryz.func90 rfl ok_z1s4w.1 ok_z1s4w.2 (by simp [Tryz.ntmps90]) ?_
  rw [run_start]
  simp only [ac_z1s4w, oo, og, tp, ci, cq, mq, lq, fi, sr, go_sem, contS_seq, simprocAttr]
  (repeat' (first | (refine GifP.mk (fun _ => ?_) (fun _ => ?_)) | (refine Gif.mk (fun _ => ?_) (fun _ => ?_)) | (refine (ref1_Label _ hs).callW (enters_of Tryz.func89 rfl rfl) _ rfl rfl ?_; rintro _ rfl; try simp only [go_sem, contS_seq, simprocAttr]))) <;> (simp only [retK, resD, St.get, lk, oneD, D.pub, D.pubs, retL, reduceIte, Nat.reduceEqDiff, Nat.reduceAdd, Nat.reduceLeDiff, Tryz.results90]; exact ⟨_, rfl, rfl, congrArg bln (by first | rfl | (rw [Bool.eq_iff_iff]; simp only [labValue]; simp; done) | (rw [Bool.eq_iff_iff]; simp only [labValue]; simp; omega) | (rw [Bool.eq_iff_iff]; simp only [labValue]; simp [*]; done) | (rw [Bool.eq_iff_iff]; simp only [labValue]; simp [*]; omega) | (simp_all [labValue]; done) | (exfalso; omega))⟩)

theorem askMay_iff (n : ANeed) : askMay n = true ↔ (dname n.name = true ∧ (((n.kind = 1 ∨ n.kind = 2) ∧ 1 ≤ n.vals.length ∧ n.vals.length ≤ 8) ∨ ((n.kind = 3 ∨ n.kind = 4) ∧ n.vals.length = 0))) ∧ ∀ (j : Nat) (x : ByteArray), n.vals[j]? = some x → labValue x = true := by
  simp only [askMay, fewVals, Bool.and_eq_true, Bool.or_eq_true, decide_eq_true_eq, Bool.not_eq_true', any_at, Bool.not_eq_false']
  constructor
  · rintro ⟨h1, h2⟩
    rcases h2 with ((⟨h2, ⟨h3, h4⟩, h5⟩ | ⟨h2, ⟨h3, h4⟩, h5⟩) | ⟨h2, h3⟩) | ⟨h2, h3⟩
    · exact ⟨⟨h1, .inl ⟨.inl h2, h3, h4⟩⟩, h5⟩
    · exact ⟨⟨h1, .inl ⟨.inr h2, h3, h4⟩⟩, h5⟩
    · exact ⟨⟨h1, .inr ⟨.inl h2, h3⟩⟩, fun j x hx => by have := (List.getElem?_eq_some_iff.1 hx).1; omega⟩
    · exact ⟨⟨h1, .inr ⟨.inr h2, h3⟩⟩, fun j x hx => by have := (List.getElem?_eq_some_iff.1 hx).1; omega⟩
  · rintro ⟨⟨h1, h2⟩, h5⟩
    refine ⟨h1, ?_⟩
    rcases h2 with ⟨h2 | h2, h3, h4⟩ | ⟨h2 | h2, h3⟩
    · exact .inl (.inl (.inl ⟨h2, ⟨h3, h4⟩, h5⟩))
    · exact .inl (.inl (.inr ⟨h2, ⟨h3, h4⟩, h5⟩))
    · exact .inl (.inr ⟨h2, h3⟩)
    · exact .inr ⟨h2, h3⟩

theorem needsMay_iff (l : List ANeed) : needsMay l = true ↔ l.length ≤ 8 ∧ ∀ (j : Nat) (x : ANeed), l[j]? = some x → askMay x = true := by
  simp only [needsMay, Bool.and_eq_true, decide_eq_true_eq, Bool.not_eq_true', any_at, Bool.not_eq_false']

theorem labels_from {l : List APair} : ∀ {k i : Nat}, labelsFrom l k i = true ↔ ∀ (j : Nat) (x : APair), i ≤ j → j < i + k → l[j]? = some x → (dname x.name = true ∧ labValue x.val = true) ∧ ∀ y : APair, 0 < j → l[j - 1]? = some y → Op.bytesLess y.name.toList x.name.toList = true
  | 0, i => by
    simp only [labelsFrom, true_iff]
    intro j x h1 h2; omega
  | k + 1, i => by
    simp only [labelsFrom, Bool.and_eq_true, labels_from]
    have one : ∀ x : APair, l[i]? = some x → ((dname x.name && labValue x.val && (decide (i = 0) || (match l[i - 1]? with | some q => Op.bytesLess q.name.toList x.name.toList | none => false))) = true ↔ (dname x.name = true ∧ labValue x.val = true) ∧ ∀ y : APair, 0 < i → l[i - 1]? = some y → Op.bytesLess y.name.toList x.name.toList = true) := fun x hx => by
      simp only [Bool.and_eq_true, Bool.or_eq_true, decide_eq_true_eq]
      refine and_congr_right fun _ => ?_
      have hlt := (List.getElem?_eq_some_iff.1 hx).1
      constructor
      · rintro (h | h) y h0 hy
        · omega
        · rw [hy] at h; exact h
      · intro h
        by_cases h0 : i = 0
        · exact .inl h0
        · right
          obtain ⟨y, hy⟩ := at_lt (show i - 1 < l.length by omega)
          rw [hy]
          exact h y (by omega) hy
    constructor
    · rintro ⟨h1, h2⟩ j x hj hk hx
      rcases Nat.eq_or_lt_of_le hj with e | e
      · subst e
        rw [hx] at h1
        exact (one x hx).1 h1
      · exact h2 j x e (by omega) hx
    · intro h
      refine ⟨?_, fun j x hj hk hx => h j x (by omega) (by omega) hx⟩
      cases hx : l[i]? with
      | none => rfl
      | some x => exact (one x hx).2 (h i x (Nat.le_refl _) (by omega) hx)

theorem labelsMay_iff (l : List APair) : labelsMay l = true ↔ l.length ≤ 8 ∧ ∀ (j : Nat) (x : APair), l[j]? = some x → (dname x.name = true ∧ labValue x.val = true) ∧ ∀ y : APair, 0 < j → l[j - 1]? = some y → Op.bytesLess y.name.toList x.name.toList = true := by
  simp only [labelsMay, Bool.and_eq_true, decide_eq_true_eq, labels_from]
  constructor
  · rintro ⟨h1, h2⟩
    exact ⟨h2, fun j x hx => h1 j x (Nat.zero_le _) (by have := (List.getElem?_eq_some_iff.1 hx).1; omega) hx⟩
  · rintro ⟨h1, h2⟩
    exact ⟨fun j x _ _ hx => h2 j x hx, h1⟩

set_option maxHeartbeats 2000000 in
theorem ref8_One (n : ANeed) (hn : n.vals.length ≤ 1000000) (hv : ∀ s ∈ n.vals, s.size ≤ 1000000) : Pure Tryz.prog 140 [n.d] (fun d => d = bln (askMay n)) := by
  refine pure_of_run follows an_zqap2 Tryz.func140 rfl ok_zqap2.1 ok_zqap2.2 (by simp [Tryz.ntmps140]) ?_
  rw [run_start]
  simp only [ac_zqap2, oo, og, tp, ci, cq, mq, lq, fi, sr, go_sem, contS_seq, simprocAttr, rows_len]
  refine loopS (fun k st => ∃ i : Nat, k = n.vals.length - i ∧ i ≤ n.vals.length ∧ (∀ (j : Nat) (x : ByteArray), j < i → n.vals[j]? = some x → labValue x = true) ∧ st = ⟨[(1, .ptr 1 0), (3, int i)], [(1, [int n.kind, str n.name, .pd (.slice (strs n.vals))])], [], .no⟩) n.vals.length _ ?_ ⟨0, rfl, by omega, fun _ _ h => absurd h (Nat.not_lt_zero _), rfl⟩ ?_
  · exact lessA
  rintro k st ⟨i, rfl, hi, hT, rfl⟩
  have hw := i64_succ (show i < 1000000000 by omega)
  by_cases hlt : i < n.vals.length
  · obtain ⟨x, hx⟩ := at_lt hlt
    have hmem := List.mem_of_getElem? hx
    have h1 : ((i : Int) < (n.vals.length : Int)) = True := eq_true (by omega)
    have good : (labValue x = true) → ∀ st, Weak Tryz.prog st ⟨[(1, .ptr 1 0), (3, int (i + 1 : Nat))], [(1, [int n.kind, str n.name, .pd (.slice (strs n.vals))])], [], .no⟩ → Round Tryz.prog (fun k st => ∃ i : Nat, k = n.vals.length - i ∧ i ≤ n.vals.length ∧ (∀ (j : Nat) (x : ByteArray), j < i → n.vals[j]? = some x → labValue x = true) ∧ st = ⟨[(1, .ptr 1 0), (3, int i)], [(1, [int n.kind, str n.name, .pd (.slice (strs n.vals))])], [], .no⟩) (n.vals.length - i) st := fun h st hw => ⟨n.vals.length - (i + 1), _, by omega, hw, i + 1, rfl, by omega, snoc_all hT hx h, rfl⟩
    have bad : ¬ (labValue x = true) → bln false = bln (askMay n) := fun h => bool_no fun e => h (((askMay_iff n).1 e).2 i x hx)
    simp only [go_sem, contS_seq, simprocAttr, rows_len, rows_get hx, h1, hw]
    repeat' (first | refine GifP.mk (fun _ => ?_) (fun _ => ?_) | refine Gif.mk (fun _ => ?_) (fun _ => ?_) | (refine (ref8_value x (hv x hmem)).callW (enters_of Tryz.func90 rfl rfl) _ rfl rfl ?_; rintro _ rfl; simp only [go_sem, contS_seq, simprocAttr, rows_len, rows_get hx, hw]) | refine And.intro ?_ ?_)
    all_goals first
      | (refine good (by assumption) _ ?_; exact lessA)
      | (simp only [retK, resD, St.get, lk, oneD, D.pub, D.pubs, retL, reduceIte, Nat.reduceEqDiff, Nat.reduceAdd, Nat.reduceLeDiff, Tryz.results140]; exact ⟨_, rfl, rfl, bad (by simp_all)⟩)
  have h1 : ((i : Int) < (n.vals.length : Int)) = False := eq_false (by omega)
  have hall : ∀ (j : Nat) (x : ByteArray), n.vals[j]? = some x → labValue x = true := fun j x hx => hT j x (by have := (List.getElem?_eq_some_iff.1 hx).1; omega) hx
  clear hT hw hi
  simp only [go_sem, contS_seq, simprocAttr, rows_len, h1]
  first | clear h1 hlt i | clear h1 hlt
  repeat' (first | refine GifP.mk (fun _ => ?_) (fun _ => ?_) | refine Gif.mk (fun _ => ?_) (fun _ => ?_) | (refine (ref1_Name n.name).callW (enters_of Tryz.func88 rfl rfl) _ rfl rfl ?_; rintro _ rfl; simp only [go_sem, contS_seq, simprocAttr, rows_len]) | refine And.intro ?_ ?_)
  all_goals
    simp only [retK, resD, St.get, lk, oneD, D.pub, D.pubs, retL, reduceIte, Nat.reduceEqDiff, Nat.reduceAdd, Nat.reduceLeDiff, Tryz.results140]
    refine ⟨_, rfl, rfl, congrArg bln ?_⟩
    rw [Bool.eq_iff_iff, askMay_iff, eq_true hall, and_true]
    clear hall hv
    first
      | (simp_all; done)
      | (simp_all; omega)
      | (simp only [decide_eq_true_eq, *]; omega)
      | (simp [*]; omega)
      | trace_state

theorem ref8_Needs (l : List ANeed) (hl : l.length ≤ 1000000) (h : ∀ n ∈ l, n.vals.length ≤ 1000000) (hv : ∀ n ∈ l, ∀ s ∈ n.vals, s.size ≤ 1000000) : Pure Tryz.prog 92 [.pd (.slice (rows ANeed.pd l))] (fun d => d = bln (needsMay l)) := by
  refine pure_of_run follows an_zc60e Tryz.func92 rfl ok_zc60e.1 ok_zc60e.2 (by simp [Tryz.ntmps92]) ?_
  rw [run_start]
  simp only [ac_zc60e, oo, og, tp, ci, cq, mq, lq, fi, sr, go_sem, contS_seq, simprocAttr, rows_len]
  refine loopS (fun k st => ∃ i : Nat, k = l.length - i ∧ i ≤ l.length ∧ (∀ (j : Nat) (x : ANeed), j < i → l[j]? = some x → askMay x = true) ∧ st = ⟨[(0, .pd (.slice (rows ANeed.pd l))), (3, int i)], [], [], .no⟩) l.length _ ?_ ⟨0, rfl, by omega, fun _ _ h => absurd h (Nat.not_lt_zero _), rfl⟩ ?_
  · exact lessA
  rintro k st ⟨i, rfl, hi, hT, rfl⟩
  have hw := i64_succ (show i < 1000000000 by omega)
  by_cases hlt : i < l.length
  · obtain ⟨x, hx⟩ := at_lt hlt
    have hmem := List.mem_of_getElem? hx
    have h1 : ((i : Int) < (l.length : Int)) = True := eq_true (by omega)
    have good : (askMay x = true) → ∀ st, Weak Tryz.prog st ⟨[(0, .pd (.slice (rows ANeed.pd l))), (3, int (i + 1 : Nat))], [], [], .no⟩ → Round Tryz.prog (fun k st => ∃ i : Nat, k = l.length - i ∧ i ≤ l.length ∧ (∀ (j : Nat) (x : ANeed), j < i → l[j]? = some x → askMay x = true) ∧ st = ⟨[(0, .pd (.slice (rows ANeed.pd l))), (3, int i)], [], [], .no⟩) (l.length - i) st := fun h st hw => ⟨l.length - (i + 1), _, by omega, hw, i + 1, rfl, by omega, snoc_all hT hx h, rfl⟩
    have bad : ¬ (askMay x = true) → bln false = bln (needsMay l) := fun h => bool_no fun e => h (((needsMay_iff l).1 e).2 i x hx)
    simp only [go_sem, contS_seq, simprocAttr, rows_len, rows_get hx, h1, hw]
    repeat' (first | refine GifP.mk (fun _ => ?_) (fun _ => ?_) | refine Gif.mk (fun _ => ?_) (fun _ => ?_) | (refine (ref8_One x (h x hmem) (hv x hmem)).callW (enters_of Tryz.func140 rfl rfl) _ rfl rfl ?_; rintro _ rfl; simp only [go_sem, contS_seq, simprocAttr, rows_len, rows_get hx, hw]) | refine And.intro ?_ ?_)
    all_goals first
      | (refine good (by assumption) _ ?_; exact lessA)
      | (simp only [retK, resD, St.get, lk, oneD, D.pub, D.pubs, retL, reduceIte, Nat.reduceEqDiff, Nat.reduceAdd, Nat.reduceLeDiff, Tryz.results92]; exact ⟨_, rfl, rfl, bad (by simp_all)⟩)
  have h1 : ((i : Int) < (l.length : Int)) = False := eq_false (by omega)
  have hall : ∀ (j : Nat) (x : ANeed), l[j]? = some x → askMay x = true := fun j x hx => hT j x (by have := (List.getElem?_eq_some_iff.1 hx).1; omega) hx
  clear hT hw hi
  simp only [go_sem, contS_seq, simprocAttr, rows_len, h1]
  first | clear h1 hlt i | clear h1 hlt
  simp only [retK, resD, St.get, lk, oneD, D.pub, D.pubs, retL, reduceIte, Nat.reduceEqDiff, Nat.reduceAdd, Nat.reduceLeDiff, Tryz.results92]
  exact ⟨_, rfl, rfl, bool_dec ⟨fun h => (needsMay_iff l).2 ⟨by omega, hall⟩, fun h => by have := ((needsMay_iff l).1 h).1; omega⟩⟩

set_option maxHeartbeats 2000000 in
theorem ref8_May (l : List APair) (hl : l.length ≤ 1000000) (hv : ∀ p ∈ l, p.val.size ≤ 1000000) : Pure Tryz.prog 55 [.pd (.slice (rows APair.pd l))] (fun d => d = bln (labelsMay l)) := by
  refine pure_of_run follows an_zgvgo Tryz.func55 rfl ok_zgvgo.1 ok_zgvgo.2 (by simp [Tryz.ntmps55]) ?_
  rw [run_start]
  simp only [ac_zgvgo, oo, og, tp, ci, cq, mq, lq, fi, sr, go_sem, contS_seq, simprocAttr, rows_len]
  refine loopS (fun k st => ∃ i : Nat, k = l.length - i ∧ i ≤ l.length ∧ (∀ (j : Nat) (x : APair), j < i → l[j]? = some x → (dname x.name = true ∧ labValue x.val = true) ∧ ∀ y : APair, 0 < (j) → l[(j) - 1]? = some y → Op.bytesLess y.name.toList x.name.toList = true) ∧ st = ⟨[(0, .pd (.slice (rows APair.pd l))), (3, int i)], [], [], .no⟩) l.length _ ?_ ⟨0, rfl, by omega, fun _ _ h => absurd h (Nat.not_lt_zero _), rfl⟩ ?_
  · exact lessA
  rintro k st ⟨i, rfl, hi, hT, rfl⟩
  have hw := i64_succ (show i < 1000000000 by omega)
  by_cases hlt : i < l.length
  · obtain ⟨x, hx⟩ := at_lt hlt
    have hmem := List.mem_of_getElem? hx
    have h1 : ((i : Int) < (l.length : Int)) = True := eq_true (by omega)
    have good : ((dname x.name = true ∧ labValue x.val = true) ∧ ∀ y : APair, 0 < i → l[i - 1]? = some y → Op.bytesLess y.name.toList x.name.toList = true) → ∀ st, Weak Tryz.prog st ⟨[(0, .pd (.slice (rows APair.pd l))), (3, int (i + 1 : Nat))], [], [], .no⟩ → Round Tryz.prog (fun k st => ∃ i : Nat, k = l.length - i ∧ i ≤ l.length ∧ (∀ (j : Nat) (x : APair), j < i → l[j]? = some x → (dname x.name = true ∧ labValue x.val = true) ∧ ∀ y : APair, 0 < (j) → l[(j) - 1]? = some y → Op.bytesLess y.name.toList x.name.toList = true) ∧ st = ⟨[(0, .pd (.slice (rows APair.pd l))), (3, int i)], [], [], .no⟩) (l.length - i) st := fun h st hw => ⟨l.length - (i + 1), _, by omega, hw, i + 1, rfl, by omega, snoc_all hT hx h, rfl⟩
    have bad : ¬ ((dname x.name = true ∧ labValue x.val = true) ∧ ∀ y : APair, 0 < i → l[i - 1]? = some y → Op.bytesLess y.name.toList x.name.toList = true) → bln false = bln (labelsMay l) := fun h => bool_no fun e => h (((labelsMay_iff l).1 e).2 i x hx)
    have hw1 : IntKind.i64.wrap ((i : Int) - 1) = (i : Int) - 1 := IntWalk.i64_in _ (by omega)
    by_cases h0 : i = 0
    · subst h0
      have hw0 : IntKind.i64.wrap 1 = 1 := rfl
      simp only [go_sem, contS_seq, simprocAttr, rows_len, rows_get hx, h1, hw, hw0]
      repeat' (first | refine GifP.mk (fun _ => ?_) (fun _ => ?_) | refine Gif.mk (fun _ => ?_) (fun _ => ?_) | (refine (ref1_Name x.name).callX (enters_of Tryz.func88 rfl rfl) _ rfl rfl ?_; rintro _ rfl; simp only [go_sem, contS_seq, simprocAttr, rows_len, rows_get hx, h1, hw, hw0]) | (refine (ref8_value x.val (hv x hmem)).callX (enters_of Tryz.func90 rfl rfl) _ rfl rfl ?_; rintro _ rfl; simp only [go_sem, contS_seq, simprocAttr, rows_len, rows_get hx, h1, hw, hw0]) | refine And.intro ?_ ?_)
      all_goals first
        | (refine good ⟨⟨by assumption, by assumption⟩, fun _ h => absurd h (Nat.lt_irrefl _)⟩ _ ?_; exact lessA)
        | (simp only [retK, resD, St.get, lk, oneD, D.pub, D.pubs, retL, reduceIte, Nat.reduceEqDiff, Nat.reduceAdd, Nat.reduceLeDiff, Tryz.results55]; exact ⟨_, rfl, rfl, bad (by simp_all)⟩)
        | (exfalso; omega)
    · obtain ⟨y, hy⟩ := at_lt (show i - 1 < l.length by omega)
      have hi1 : ((i : Int) - 1).toNat = i - 1 := by omega
      have hi2 : (0 ≤ (i : Int) - 1) = True := eq_true (by omega)
      have hi3 : ((0 : Int) < (i : Int)) = True := eq_true (by omega)
      have hq : (∀ y : APair, 0 < i → l[i - 1]? = some y → Op.bytesLess y.name.toList x.name.toList = true) ↔ Op.bytesLess y.name.toList x.name.toList = true := ⟨fun h => h y (by omega) hy, fun h y' _ hy' => by rw [hy] at hy'; cases hy'; exact h⟩
      rw [hq] at good bad
      simp only [go_sem, contS_seq, simprocAttr, rows_len, rows_get hx, h1, hw, hw1, hi1, hi2, hi3, rows_get hy, less_total]
      repeat' (first | refine GifP.mk (fun _ => ?_) (fun _ => ?_) | refine Gif.mk (fun _ => ?_) (fun _ => ?_) | (refine (ref1_Name x.name).callX (enters_of Tryz.func88 rfl rfl) _ rfl rfl ?_; rintro _ rfl; simp only [go_sem, contS_seq, simprocAttr, rows_len, rows_get hx, h1, hw, hw1, hi1, hi2, hi3, rows_get hy, less_total]) | (refine (ref8_value x.val (hv x hmem)).callX (enters_of Tryz.func90 rfl rfl) _ rfl rfl ?_; rintro _ rfl; simp only [go_sem, contS_seq, simprocAttr, rows_len, rows_get hx, h1, hw, hw1, hi1, hi2, hi3, rows_get hy, less_total]) | refine And.intro ?_ ?_)
      all_goals first
        | (refine good ⟨⟨by assumption, by assumption⟩, by simp_all⟩ _ ?_; exact lessA)
        | (simp only [retK, resD, St.get, lk, oneD, D.pub, D.pubs, retL, reduceIte, Nat.reduceEqDiff, Nat.reduceAdd, Nat.reduceLeDiff, Tryz.results55]; exact ⟨_, rfl, rfl, bad (by simp_all)⟩)
  have h1 : ((i : Int) < (l.length : Int)) = False := eq_false (by omega)
  have hall : ∀ (j : Nat) (x : APair), l[j]? = some x → (dname x.name = true ∧ labValue x.val = true) ∧ ∀ y : APair, 0 < (j) → l[(j) - 1]? = some y → Op.bytesLess y.name.toList x.name.toList = true := fun j x hx => hT j x (by have := (List.getElem?_eq_some_iff.1 hx).1; omega) hx
  clear hT hw hi
  simp only [go_sem, contS_seq, simprocAttr, rows_len, h1]
  first | clear h1 hlt i | clear h1 hlt
  simp only [retK, resD, St.get, lk, oneD, D.pub, D.pubs, retL, reduceIte, Nat.reduceEqDiff, Nat.reduceAdd, Nat.reduceLeDiff, Tryz.results55]
  exact ⟨_, rfl, rfl, bool_dec ⟨fun h => (labelsMay_iff l).2 ⟨by omega, hall⟩, fun h => by have := ((labelsMay_iff l).1 h).1; omega⟩⟩

end Go.Proofs.YtklolokoaooppaaGreatDoor


