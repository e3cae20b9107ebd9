/- Texts of the prover's, joined: D3 F1 F2 F3 F0 F4 F5 D4 G1 G2 G3. -/
import Derived.Test.YtcnhcamimcpinaaGreatDoorVJ3
import Derived.Test.YtcnhcamimcpinaaGreatDoorProg
import Derived.KernelRfl
import Derived.Lib.Bytealg
import Derived.WalkKit
import Derived.Lib.Walk
import Derived.BigCall
import Derived.BigGuard
import Derived.Deep.Draws
import Derived.Deep.LoopGhost
import Derived.Lib.ConvBytes
import Derived.Laws.BytesString

namespace Go.Proofs.YtcnhcamimcpinaaGreatDoor
open Go

def ac_zsl5t : AC := (sr [oo 2 (.mv (cq false))] [0] (sr [mq 3 0,oo 4 (.bin .geq (tp 3) (.const (.int .i32 97))),mq 5 4,og 5 true 6 (.mv (tp 0)),og 5 true 7 (.bin .leq (tp 6) (.const (.int .i32 122))),oo 8 (.pick (tp 5) (tp 7) (cq false)),mq 9 8,og 9 false 10 (.mv (tp 0)),og 9 false 11 (.bin .geq (tp 10) (.const (.int .i32 48))),og 9 false 12 (.mv (tp 11)),og 12 true 13 (.mv (tp 0)),og 12 true 14 (.bin .leq (tp 13) (.const (.int .i32 57))),og 9 false 15 (.pick (tp 12) (tp 14) (cq false)),oo 16 (.pick (tp 9) (cq true) (tp 15)),mq 17 16,og 17 false 18 (.mv (tp 0)),og 17 false 19 (.bin .eql (tp 18) (.const (.int .i32 45))),oo 20 (.pick (tp 17) (cq true) (tp 19)),mq 2 20] [2] .ret))
def an_zsl5t : Ann := ann (List.range 2) ac_zsl5t
theorem ok_zsl5t : okd Tryz.prog an_zsl5t ac_zsl5t Tryz.f157 := ⟨by kernel_rfl, by kernel_rfl⟩

def ac_zmcx0 : AC := (sr [oo 2 (.mv (cq false))] [0] (sr [mq 3 0,oo 4 (.call 157 [tp 3]),oo 5 (.un .not (tp 4)),mq 2 5] [2] .ret))
def an_zmcx0 : Ann := ann (List.range 2) ac_zmcx0
theorem ok_zmcx0 : okd Tryz.prog an_zmcx0 ac_zmcx0 Tryz.f156 := ⟨by kernel_rfl, by kernel_rfl⟩

def ac_zkca0 : AC := (sr [oo 6 (.mv (ci 0))] [0,1,2] (.seq (sr [mq 9 0,oo 10 (.srange (tp 9))] [1,2,10] (.block 0 (.loop (sr [oo 11 (.snext (tp 10)),oo 12 (.extract (tp 11) 0)] [1,2,10,11,12] (.seq (.cond (tp 12) .skip (.exit 0)) (.block 1 (sr [oo 13 (.extract (tp 11) 1),oo 14 (.extract (tp 11) 2),mq 7 13,mq 8 14] [1,2,7,8,10] (sr [mq 15 1,mq 16 8,oo 17 (.callv (tp 15) [tp 16]),mq 18 2,oo 19 (.binB false (tp 17) (tp 18))] [1,2,7,10,19] (.cond (tp 19) (sr [mq 20 7,mq 6 20] [6] .ret) .skip))))))))) (sr [oo 6 (.mv (ci (-1)))] [6] .ret)))
def an_zkca0 : Ann := ann (List.range 7) ac_zkca0
theorem ok_zkca0 : okd Tryz.prog an_zkca0 ac_zkca0 Tryz.f201 := ⟨by kernel_rfl, by kernel_rfl⟩

def ac_zgrrf : AC := (sr [oo 4 (.mv (ci 0))] [0,1] (sr [mq 5 0,mq 6 1,oo 7 (.call 201 [tp 5,tp 6,cq true]),mq 4 7] [4] .ret))
def an_zgrrf : Ann := ann (List.range 2) ac_zgrrf
theorem ok_zgrrf : okd Tryz.prog an_zgrrf ac_zgrrf Tryz.f158 := ⟨by kernel_rfl, by kernel_rfl⟩

def ac_zovze : AC := (sr [oo 2 (.mv (cq false))] [0] (sr [oo 3 (.mv (.func 156))] [0,3] (sr [mq 4 0,oo 5 (.bin .neq (tp 4) (.const (.string ⟨#[]⟩))),mq 6 5,og 6 true 7 (.mv (tp 0)),og 6 true 8 (.len (tp 7) true),og 6 true 9 (.bin .leq (tp 8) (ci 20)),oo 10 (.pick (tp 6) (tp 9) (cq false)),mq 11 10,og 11 true 12 (.mv (tp 0)),og 11 true 13 (.mv (tp 3)),og 11 true 14 (.call 158 [tp 12,tp 13]),og 11 true 15 (.bin .lss (tp 14) (ci 0)),oo 16 (.pick (tp 11) (tp 15) (cq false)),mq 17 16,og 17 true 18 (.mv (tp 0)),og 17 true 19 (.idxS (tp 18) (ci 0)),og 17 true 20 (.bin .neq (tp 19) (.const (.int .u8 45))),oo 21 (.pick (tp 17) (tp 20) (cq false)),mq 22 21,og 22 true 23 (.mv (tp 0)),og 22 true 24 (.mv (tp 0)),og 22 true 25 (.len (tp 24) true),og 22 true 26 (.bin .sub (tp 25) (ci 1)),og 22 true 27 (.idxS (tp 23) (tp 26)),og 22 true 28 (.bin .neq (tp 27) (.const (.int .u8 45))),oo 29 (.pick (tp 22) (tp 28) (cq false)),mq 2 29] [2] .ret)))
def an_zovze : Ann := ann (List.range 3) ac_zovze
theorem ok_zovze : okd Tryz.prog an_zovze ac_zovze Tryz.f104 := ⟨by kernel_rfl, by kernel_rfl⟩

def ac_z89f : AC := (sr [oo 4 (.mv (ci 0))] [0,1] (sr [mq 5 0,mq 6 1,oo 7 (.call 236 [tp 5,tp 6]),mq 4 7] [4] .ret))
def an_z89f : Ann := ann (List.range 2) ac_z89f
theorem ok_z89f : okd Tryz.prog an_z89f ac_z89f Tryz.f217 := ⟨by kernel_rfl, by kernel_rfl⟩

def ac_zn6ys : AC := (sr [oo 4 (.mv (ci 0))] [0,1] (sr [mq 14 1,oo 15 (.len (tp 14) true),mq 5 15] [0,1,5] (.seq (.block 0 (sr [mq 17 5,oo 18 (.bin .eql (tp 17) (ci 0)),mq 19 18,og 19 false 20 (.mv (tp 1)),og 19 false 21 (.mv (tp 0)),og 19 false 22 (.bin .eql (tp 20) (tp 21)),oo 23 (.pick (tp 19) (cq true) (tp 22)),mq 16 23] [0,1,5,16] (.cond (tp 16) (sr [oo 4 (.mv (ci 0))] [4] .ret) (sr [mq 25 5,oo 26 (.bin .eql (tp 25) (ci 1)),mq 24 26] [0,1,5,24] (.cond (tp 24) (sr [mq 27 0,mq 28 1,oo 29 (.idxS (tp 28) (ci 0)),oo 30 (.call 237 [tp 27,tp 29]),mq 4 30] [4] .ret) (sr [mq 32 5,mq 33 0,oo 34 (.len (tp 33) true),oo 35 (.bin .geq (tp 32) (tp 34)),mq 31 35] [0,1,5,31] (.cond (tp 31) (sr [oo 4 (.mv (ci (-1)))] [4] .ret) (sr [mq 37 5,oo 38 (.load none (.global 2)),oo 39 (.bin .leq (tp 37) (tp 38)),mq 40 39,og 40 true 41 (.mv (tp 0)),og 40 true 42 (.len (tp 41) true),og 40 true 43 (.bin .leq (tp 42) (ci 64)),oo 44 (.pick (tp 40) (tp 43) (cq false)),mq 36 44] [0,1,5,36] (.cond (tp 36) (sr [mq 45 0,mq 46 1,oo 47 (.call 246 [tp 45,tp 46]),mq 4 47] [4] .ret) .skip))))))))) (sr [mq 48 1,oo 49 (.idxS (tp 48) (ci 0)),mq 6 49] [0,1,5,6] (sr [mq 50 1,oo 51 (.idxS (tp 50) (ci 1)),mq 7 51] [0,1,5,6,7] (sr [oo 8 (.mv (ci 0))] [0,1,5,6,7,8] (sr [mq 52 0,oo 53 (.len (tp 52) true),mq 54 5,oo 55 (.bin .sub (tp 53) (tp 54)),oo 56 (.bin .add (tp 55) (ci 1)),mq 9 56] [0,1,5,6,7,8,9] (sr [oo 10 (.mv (ci 0))] [0,1,5,6,7,8,9,10] (.seq (.block 1 (.loop (.seq (sr [mq 57 8,mq 58 9,oo 59 (.bin .lss (tp 57) (tp 58))] [0,1,5,6,7,8,9,10,59] (.cond (tp 59) .skip (.exit 1))) (.block 2 (.seq (sr [mq 60 0,mq 61 8,oo 62 (.idxS (tp 60) (tp 61)),mq 63 6,oo 64 (.bin .neq (tp 62) (tp 63))] [0,1,5,6,7,8,9,10,64] (.cond (tp 64) (sr [mq 65 0,mq 66 8,oo 67 (.bin .add (tp 66) (ci 1)),mq 68 9,oo 69 (.slcS (tp 65) (some (tp 67)) (some (tp 68))),mq 70 6,oo 71 (.call 237 [tp 69,tp 70]),mq 11 71] [0,1,5,6,7,8,9,10,11] (.seq (sr [mq 72 11,oo 73 (.bin .lss (tp 72) (ci 0))] [0,1,5,6,7,8,9,10,11,73] (.cond (tp 73) (sr [oo 4 (.mv (ci (-1)))] [4] .ret) .skip)) (.region [mq 74 8,mq 75 11,oo 76 (.bin .add (tp 75) (ci 1)),oo 77 (.bin .add (tp 74) (tp 76)),mq 8 77] (some [0,1,5,6,7,8,9,10])))) .skip)) (.seq (sr [mq 78 0,mq 79 8,oo 80 (.bin .add (tp 79) (ci 1)),oo 81 (.idxS (tp 78) (tp 80)),mq 82 7,oo 83 (.bin .eql (tp 81) (tp 82)),mq 84 83,og 84 true 85 (.mv (tp 0)),og 84 true 86 (.mv (tp 8)),og 84 true 87 (.mv (tp 8)),og 84 true 88 (.mv (tp 5)),og 84 true 89 (.bin .add (tp 87) (tp 88)),og 84 true 90 (.slcS (tp 85) (some (tp 86)) (some (tp 89))),og 84 true 91 (.mv (tp 1)),og 84 true 92 (.bin .eql (tp 90) (tp 91)),oo 93 (.pick (tp 84) (tp 92) (cq false))] [0,1,5,6,7,8,9,10,93] (.cond (tp 93) (sr [mq 94 8,mq 4 94] [4] .ret) .skip)) (sr [mq 95 8,oo 96 (.bin .add (tp 95) (ci 1)),mq 8 96] [0,1,5,6,7,8,9,10] (sr [mq 97 10,oo 98 (.bin .add (tp 97) (ci 1)),mq 10 98] [0,1,5,6,7,8,9,10] (sr [mq 99 5,oo 100 (.load none (.global 2)),oo 101 (.bin .leq (tp 99) (tp 100)),mq 102 101,og 102 true 103 (.mv (tp 10)),og 102 true 104 (.mv (tp 8)),og 102 true 105 (.call 247 [tp 104]),og 102 true 106 (.bin .gtr (tp 103) (tp 105)),oo 107 (.pick (tp 102) (tp 106) (cq false))] [0,1,5,6,7,8,9,10,107] (.cond (tp 107) (sr [mq 108 0,mq 109 8,oo 110 (.slcS (tp 108) (some (tp 109)) none),mq 111 1,oo 112 (.call 246 [tp 110,tp 111]),mq 12 112] [8,12] (.seq (sr [mq 113 12,oo 114 (.bin .geq (tp 113) (ci 0))] [8,12,114] (.cond (tp 114) (sr [mq 115 12,mq 116 8,oo 117 (.bin .add (tp 115) (tp 116)),mq 4 117] [4] .ret) .skip)) (sr [oo 4 (.mv (ci (-1)))] [4] .ret))) (sr [mq 118 5,oo 119 (.load none (.global 2)),oo 120 (.bin .gtr (tp 118) (tp 119)),mq 121 120,og 121 true 122 (.mv (tp 10)),og 121 true 123 (.mv (tp 8)),og 121 true 124 (.bin .shr (tp 123) (.const (.int .u64 4))),og 121 true 125 (.bin .add (ci 4) (tp 124)),og 121 true 126 (.bin .geq (tp 122) (tp 125)),oo 127 (.pick (tp 121) (tp 126) (cq false)),mq 128 127,og 128 true 129 (.mv (tp 8)),og 128 true 130 (.mv (tp 9)),og 128 true 131 (.bin .lss (tp 129) (tp 130)),oo 132 (.pick (tp 128) (tp 131) (cq false))] [0,1,5,6,7,8,9,10,132] (.cond (tp 132) (sr [mq 133 0,mq 134 8,oo 135 (.slcS (tp 133) (some (tp 134)) none),mq 136 1,oo 137 (.call 248 [tp 135,tp 136]),mq 13 137] [8,13] (.seq (sr [mq 138 13,oo 139 (.bin .lss (tp 138) (ci 0))] [8,13,139] (.cond (tp 139) (sr [oo 4 (.mv (ci (-1)))] [4] .ret) .skip)) (sr [mq 140 8,mq 141 13,oo 142 (.bin .add (tp 140) (tp 141)),mq 4 142] [4] .ret))) .skip)))))))))))) (sr [oo 4 (.mv (ci (-1)))] [4] .ret))))))))))
def an_zn6ys : Ann := ann (List.range 36) ac_zn6ys
theorem ok_zn6ys : okd Tryz.prog an_zn6ys ac_zn6ys Tryz.f236 := ⟨by kernel_rfl, by kernel_rfl⟩

def ac_zjcnn : AC := (.seq (sr [lq 9 1,oo 10 (.len (tp 9) true),oo 11 (.bin .eql (tp 10) (ci 0))] [0,1,2,3,11] (.cond (tp 11) (.seq (.block 0 (.loop (.seq (sr [lq 12 2,oo 13 (.len (tp 12) true),oo 14 (.bin .gtr (tp 13) (ci 0))] [0,2,14] (.cond (tp 14) .skip (.exit 0))) (.block 1 (sr [lq 16 2,oo 17 (.call 216 [tp 16]),mq 15 17,oo 18 (.extract (tp 15) 0),oo 19 (.extract (tp 15) 1),mq 5 18,mq 6 19] [0,2,6] (.seq (sr [mq 20 0,lq 21 2,mq 22 6,oo 23 (.slcS (tp 21) none (some (tp 22))),oo 24 (.callv (tp 20) [tp 23]),oo 25 (.un .not (tp 24))] [0,2,6,25] (.cond (tp 25) .ret .skip)) (.region [lq 26 2,mq 27 6,oo 28 (.slcS (tp 26) (some (tp 27)) none),.mk none none (.store 1 (tp 2) (tp 28))] (some [0,2])))))))) .ret) .skip)) (.seq (.block 2 (.loop (.block 3 (sr [lq 29 2,lq 30 1,oo 31 (.call 217 [tp 29,tp 30]),mq 7 31] [0,1,2,3,7] (.seq (sr [mq 32 7,oo 33 (.bin .lss (tp 32) (ci 0))] [0,1,2,3,7,33] (.cond (tp 33) (.exit 2) .skip)) (sr [lq 34 2,mq 35 7,lq 36 3,oo 37 (.bin .add (tp 35) (tp 36)),oo 38 (.slcS (tp 34) none (some (tp 37))),mq 8 38] [0,1,2,3,7,8] (.seq (sr [mq 39 0,mq 40 8,oo 41 (.callv (tp 39) [tp 40]),oo 42 (.un .not (tp 41))] [0,1,2,3,7,42] (.cond (tp 42) .ret .skip)) (.region [lq 43 2,mq 44 7,lq 45 1,oo 46 (.len (tp 45) true),oo 47 (.bin .add (tp 44) (tp 46)),oo 48 (.slcS (tp 43) (some (tp 47)) none),.mk none none (.store 1 (tp 2) (tp 48))] (some [0,1,2,3]))))))))) (.region [mq 49 0,lq 50 2,oo 51 (.callv (tp 49) [tp 50])] (some []))))
def an_zjcnn : Ann := ann (List.range 11) ac_zjcnn
theorem ok_zjcnn : okd Tryz.prog an_zjcnn ac_zjcnn Tryz.f215 := ⟨by kernel_rfl, by kernel_rfl⟩

def ac_z70r5 : AC := (sr [oo 3 (.box 9 (tp 0)),oo 4 (.box 9 (tp 1)),oo 5 (.box 3 (tp 2)),oo 6 (.mv (.const .nilFunc))] [3,4,5] (sr [oo 7 (.mkfn 215 [tp 4,tp 3,tp 5]),mq 6 7] [6] .ret))
def an_z70r5 : Ann := ann (List.range 2) ac_z70r5
theorem ok_z70r5 : okd Tryz.prog an_z70r5 ac_z70r5 Tryz.f177 := ⟨by kernel_rfl, by kernel_rfl⟩

def ac_zln7r : AC := (sr [oo 4 (.mv (.const .nilFunc))] [0,1] (sr [mq 5 0,mq 6 1,oo 7 (.call 177 [tp 5,tp 6,ci 0]),mq 4 7] [4] .ret))
def an_zln7r : Ann := ann (List.range 2) ac_zln7r
theorem ok_zln7r : okd Tryz.prog an_zln7r ac_zln7r Tryz.f137 := ⟨by kernel_rfl, by kernel_rfl⟩

def ac_zmldt : AC := (sr [oo 2 (.alloc 4 [.pd (.raw (.bool false))])] [0,2,3] (.seq (sr [mq 4 0,oo 5 (.len (tp 4) true),oo 6 (.bin .gtr (tp 5) (ci 60))] [0,2,3,6] (.cond (tp 6) (sr [.mk none none (.store 1 (tp 2) (cq false))] [2] .ret) .skip)) (.seq (sr [mq 7 0,oo 8 (.call 137 [tp 7,.const (.string ⟨#[46]⟩)])] [2,3,8] (.block 0 (.rangeF [2] 9 (some 3) (tp 8) (.block 1 (sr [mq 10 3,oo 11 (.call 104 [tp 10]),oo 12 (.un .not (tp 11))] [2,12] (.cond (tp 12) (sr [.mk none none (.store 1 (tp 2) (cq false))] [] .ret) .skip)))))) (sr [.mk none none (.store 1 (tp 2) (cq true))] [2] .ret))))
def an_zmldt : Ann := ann [0,1,2,3,5,6,7] ac_zmldt
theorem ok_zmldt : okd Tryz.prog an_zmldt ac_zmldt Tryz.f87 := ⟨by kernel_rfl, by kernel_rfl⟩
theorem ret_zmldt (st : St) : resD Tryz.prog st Tryz.f87.results.toList = resA st [.cell 2 none] := resD_of (by kernel_rfl)

def ac_zgqff : AC := (sr [oo 4 (.mv (.const (.string ⟨#[]⟩))),oo 5 (.mv (cq false))] [0,1] (sr [mq 6 0,mq 7 1,oo 8 (.call 181 [tp 6,tp 7]),oo 9 (.extract (tp 8) 0),oo 10 (.extract (tp 8) 1),mq 4 9,mq 5 10] [4,5] .ret))
def an_zgqff : Ann := ann (List.range 2) ac_zgqff
theorem ok_zgqff : okd Tryz.prog an_zgqff ac_zgqff Tryz.f146 := ⟨by kernel_rfl, by kernel_rfl⟩

def ac_zd73u : AC := (sr [oo 4 (.mv (.const (.string ⟨#[]⟩))),oo 5 (.mv (cq false))] [0,1] (.seq (sr [mq 6 0,mq 7 1,oo 8 (.call 218 [tp 6,tp 7]),oo 9 (.un .not (tp 8))] [0,1,9] (.cond (tp 9) (sr [mq 10 0,mq 4 10,oo 5 (.mv (cq false))] [4,5] .ret) .skip)) (sr [mq 11 0,mq 12 1,oo 13 (.len (tp 12) true),oo 14 (.slcS (tp 11) (some (tp 13)) none),mq 4 14,oo 5 (.mv (cq true))] [4,5] .ret)))
def an_zd73u : Ann := ann (List.range 4) ac_zd73u
theorem ok_zd73u : okd Tryz.prog an_zd73u ac_zd73u Tryz.f181 := ⟨by kernel_rfl, by kernel_rfl⟩

def ac_zntfc : AC := (sr [oo 4 (.mv (cq false))] [0,1] (sr [mq 5 0,oo 6 (.len (tp 5) true),mq 7 1,oo 8 (.len (tp 7) true),oo 9 (.bin .geq (tp 6) (tp 8)),mq 10 9,og 10 true 11 (.mv (tp 0)),og 10 true 12 (.mv (tp 1)),og 10 true 13 (.len (tp 12) true),og 10 true 14 (.slcS (tp 11) none (some (tp 13))),og 10 true 15 (.mv (tp 1)),og 10 true 16 (.bin .eql (tp 14) (tp 15)),oo 17 (.pick (tp 10) (tp 16) (cq false)),mq 4 17] [4] .ret))
def an_zntfc : Ann := ann (List.range 2) ac_zntfc
theorem ok_zntfc : okd Tryz.prog an_zntfc ac_zntfc Tryz.f218 := ⟨by kernel_rfl, by kernel_rfl⟩

def ac_zc2tl : AC := (sr [oo 4 (.mv (cq false))] [0,1] (sr [mq 5 0,mq 6 1,oo 7 (.call 218 [tp 5,tp 6]),mq 4 7] [4] .ret))
def an_zc2tl : Ann := ann (List.range 2) ac_zc2tl
theorem ok_zc2tl : okd Tryz.prog an_zc2tl ac_zc2tl Tryz.f245 := ⟨by kernel_rfl, by kernel_rfl⟩

def ac_zq3h5 : AC := (sr [oo 4 (.mv (cq false))] [0,1] (sr [mq 5 0,mq 6 1,oo 7 (.call 230 [tp 5,tp 6]),mq 4 7] [4] .ret))
def an_zq3h5 : Ann := ann (List.range 2) ac_zq3h5
theorem ok_zq3h5 : okd Tryz.prog an_zq3h5 ac_zq3h5 Tryz.f205 := ⟨by kernel_rfl, by kernel_rfl⟩

def ac_z30tk : AC := (sr [oo 4 (.mv (cq false))] [0,1] (sr [mq 5 0,oo 6 (.len (tp 5) true),mq 7 1,oo 8 (.len (tp 7) true),oo 9 (.bin .geq (tp 6) (tp 8)),mq 10 9,og 10 true 11 (.mv (tp 0)),og 10 true 12 (.mv (tp 0)),og 10 true 13 (.len (tp 12) true),og 10 true 14 (.mv (tp 1)),og 10 true 15 (.len (tp 14) true),og 10 true 16 (.bin .sub (tp 13) (tp 15)),og 10 true 17 (.slcS (tp 11) (some (tp 16)) none),og 10 true 18 (.mv (tp 1)),og 10 true 19 (.bin .eql (tp 17) (tp 18)),oo 20 (.pick (tp 10) (tp 19) (cq false)),mq 4 20] [4] .ret))
def an_z30tk : Ann := ann (List.range 2) ac_z30tk
theorem ok_z30tk : okd Tryz.prog an_z30tk ac_z30tk Tryz.f230 := ⟨by kernel_rfl, by kernel_rfl⟩

def ac_z2osy : AC := (sr [oo 2 (.mv (cq false))] [0] (sr [mq 6 0,oo 7 (.call 146 [tp 6,.const (.string ⟨#[42,46]⟩)]),mq 5 7,oo 8 (.extract (tp 5) 0),oo 9 (.extract (tp 5) 1),mq 3 8,mq 4 9] [0,3,4] (sr [mq 10 0,oo 11 (.bin .eql (tp 10) (.const (.string ⟨#[]⟩))),mq 12 11,og 12 false 13 (.mv (tp 0)),og 12 false 14 (.len (tp 13) true),og 12 false 15 (.bin .leq (tp 14) (ci 60)),og 12 false 16 (.mv (tp 15)),og 16 true 17 (.mv (tp 3)),og 16 true 18 (.call 87 [tp 17]),og 12 false 19 (.pick (tp 16) (tp 18) (cq false)),og 12 false 20 (.mv (tp 19)),og 20 true 21 (.mv (tp 4)),og 20 true 22 (.mv (tp 21)),og 22 false 23 (.mv (tp 3)),og 22 false 24 (.mv (tp 0)),og 22 false 25 (.bin .eql (tp 23) (tp 24)),og 20 true 26 (.pick (tp 22) (cq true) (tp 25)),og 12 false 27 (.pick (tp 20) (tp 26) (cq false)),oo 28 (.pick (tp 12) (cq true) (tp 27)),mq 2 28] [2] .ret)))
def an_z2osy : Ann := ann (List.range 3) ac_z2osy
theorem ok_z2osy : okd Tryz.prog an_z2osy ac_z2osy Tryz.f96 := ⟨by kernel_rfl, by kernel_rfl⟩

def ac_z6j2 : AC := (sr [oo 2 (.mv (cq false))] [0] (.seq (sr [mq 5 0,oo 6 (.srange (tp 5))] [0,6] (.block 0 (.loop (sr [oo 7 (.snext (tp 6)),oo 8 (.extract (tp 7) 0)] [0,6,7,8] (.seq (.cond (tp 8) .skip (.exit 0)) (.block 1 (sr [oo 9 (.extract (tp 7) 2),mq 4 9] [0,4,6] (sr [mq 10 4,oo 11 (.bin .lss (tp 10) (.const (.int .i32 33))),mq 12 11,og 12 false 13 (.mv (tp 4)),og 12 false 14 (.bin .gtr (tp 13) (.const (.int .i32 126))),oo 15 (.pick (tp 12) (cq true) (tp 14)),mq 16 15,og 16 false 17 (.mv (tp 4)),og 16 false 18 (.bin .eql (tp 17) (.const (.int .i32 63))),oo 19 (.pick (tp 16) (cq true) (tp 18)),mq 20 19,og 20 false 21 (.mv (tp 4)),og 20 false 22 (.bin .eql (tp 21) (.const (.int .i32 35))),oo 23 (.pick (tp 20) (cq true) (tp 22))] [0,6,23] (.cond (tp 23) (sr [oo 2 (.mv (cq false))] [2] .ret) .skip))))))))) (sr [mq 24 0,oo 25 (.call 245 [tp 24,.const (.string ⟨#[47]⟩)]),mq 26 25,og 26 true 27 (.mv (tp 0)),og 26 true 28 (.len (tp 27) true),og 26 true 29 (.bin .leq (tp 28) (ci 60)),oo 30 (.pick (tp 26) (tp 29) (cq false)),mq 2 30] [2] .ret)))
def an_z6j2 : Ann := ann (List.range 7) ac_z6j2
theorem ok_z6j2 : okd Tryz.prog an_z6j2 ac_z6j2 Tryz.f222 := ⟨by kernel_rfl, by kernel_rfl⟩

def ac_zgeto : AC := (sr [oo 2 (.mv (cq false))] [0] (sr [mq 3 0,oo 4 (.call 222 [tp 3]),mq 5 4,og 5 true 6 (.mv (tp 0)),og 5 true 7 (.bin .eql (tp 6) (.const (.string ⟨#[47]⟩))),og 5 true 8 (.mv (tp 7)),og 8 false 9 (.mv (tp 0)),og 8 false 10 (.call 205 [tp 9,.const (.string ⟨#[47]⟩)]),og 8 false 11 (.un .not (tp 10)),og 5 true 12 (.pick (tp 8) (cq true) (tp 11)),oo 13 (.pick (tp 5) (tp 12) (cq false)),mq 2 13] [2] .ret))
def an_zgeto : Ann := ann (List.range 2) ac_zgeto
theorem ok_zgeto : okd Tryz.prog an_zgeto ac_zgeto Tryz.f223 := ⟨by kernel_rfl, by kernel_rfl⟩

def ac_z2uwa : AC := (sr [oo 1 (.box 71 (tp 0)),oo 2 (.mv (cq false))] [1] (sr [fi 3 0 1,lq 4 3,oo 5 (.bin .eql (tp 4) (ci 1)),mq 6 5,og 6 true 7 (.fieldA 1 (tp 1)),og 6 true 8 (.load none (tp 7)),og 6 true 9 (.call 222 [tp 8]),oo 10 (.pick (tp 6) (tp 9) (cq false)),mq 11 10,og 11 false 12 (.fieldA 0 (tp 1)),og 11 false 13 (.load none (tp 12)),og 11 false 14 (.bin .eql (tp 13) (ci 2)),og 11 false 15 (.mv (tp 14)),og 15 true 16 (.fieldA 1 (tp 1)),og 15 true 17 (.load none (tp 16)),og 15 true 18 (.call 223 [tp 17]),og 11 false 19 (.pick (tp 15) (tp 18) (cq false)),oo 20 (.pick (tp 11) (cq true) (tp 19)),mq 2 20] [2] .ret))
def an_z2uwa : Ann := ann (List.range 2) ac_z2uwa
theorem ok_z2uwa : okd Tryz.prog an_z2uwa ac_z2uwa Tryz.f188 := ⟨by kernel_rfl, by kernel_rfl⟩

def ac_ziqey : AC := (sr [oo 2 (.mv (cq false))] [0] (sr [mq 3 0,oo 4 (.bin .eql (tp 3) (.const (.string ⟨#[]⟩))),mq 5 4,og 5 false 6 (.mv (tp 0)),og 5 false 7 (.call 104 [tp 6]),oo 8 (.pick (tp 5) (cq true) (tp 7)),mq 2 8] [2] .ret))
def an_ziqey : Ann := ann (List.range 2) ac_ziqey
theorem ok_ziqey : okd Tryz.prog an_ziqey ac_ziqey Tryz.f130 := ⟨by kernel_rfl, by kernel_rfl⟩

def ac_z2iq3 : AC := (sr [oo 2 (.mv (cq false))] [0] (.seq (sr [mq 5 0,oo 6 (.len (tp 5) false),oo 7 (.mv (ci 0))] [0,5,6,7] (.block 0 (.loop (sr [oo 8 (.bin .lss (tp 7) (tp 6))] [0,5,6,7,8] (.seq (.cond (tp 8) .skip (.exit 0)) (.seq (.block 1 (sr [mq 9 7,oo 10 (.idxA 2 (tp 5) (tp 7)),oo 11 (.load (some 2) (tp 10)),oo 4 (.alloc 90 [.pd (.raw (.string ⟨#[]⟩)),.pd (.raw (.string ⟨#[]⟩))]),mq 3 9,.mk none none (.store 2 (tp 4) (tp 11))] [0,3,4,5,6,7] (.seq (.draw [fi 12 0 4,lq 13 12,oo 14 (.call 87 [tp 13]),oo 15 (.un .not (tp 14)),mq 16 15,og 16 false 17 (.fieldA 1 (tp 4)),og 16 false 18 (.load none (tp 17)),og 16 false 19 (.call 130 [tp 18]),og 16 false 20 (.un .not (tp 19)),oo 21 (.pick (tp 16) (cq true) (tp 20)),mq 22 21,og 22 false 23 (.mv (tp 3)),og 22 false 24 (.bin .gtr (tp 23) (ci 0)),og 22 false 25 (.mv (tp 24)),og 25 true 26 (.mv (tp 0)),og 25 true 27 (.mv (tp 3)),og 25 true 28 (.bin .sub (tp 27) (ci 1)),og 25 true 29 (.idxA 2 (tp 26) (tp 28)),og 25 true 30 (.fieldA 0 (tp 29)),og 25 true 31 (.load none (tp 30)),og 25 true 32 (.fieldA 0 (tp 4)),og 25 true 33 (.load none (tp 32)),og 25 true 34 (.bin .geq (tp 31) (tp 33)),og 22 false 35 (.pick (tp 25) (tp 34) (cq false)),oo 36 (.pick (tp 22) (cq true) (tp 35))] [0,1,3,7,15,31,63,127,255,511,1023,2047,4095,8191,16383,16383,49151,131071,262143,524287,16383,1064959,4194303,8388607,16777215] (.take 0 (.take 1 (.alts (.cons 2 true (.take 3 (.take 4 (.take 5 (.take 6 (.alts (.cons 7 true (.take 8 (.take 9 (.take 10 (.take 11 (.take 12 (.take 13 (.take 14 (.take 15 (.take 16 (.take 17 (.take 18 (.take 19 (.take 20 (.take 21 (.take 22 (.take 23 (.take 24 .done))))))))))))))))) .nil)))))) .nil)))) (some [0,5,6,7,36])) (.cond (tp 36) (sr [oo 2 (.mv (cq false))] [2] .ret) .skip)))) (.region [oo 37 (.bin .add (tp 7) (ci 1)),mq 7 37] (some [0,5,6,7])))))))) (sr [mq 38 0,oo 39 (.len (tp 38) false),oo 40 (.bin .leq (tp 39) (ci 8)),mq 2 40] [2] .ret)))
def an_z2iq3 : Ann := ann (List.range 8) ac_z2iq3
theorem ok_z2iq3 : okd Tryz.prog an_z2iq3 ac_z2iq3 Tryz.f74 := ⟨by kernel_rfl, by kernel_rfl⟩

def ac_zr0tf : AC := (sr [oo 2 (.mv (cq false))] [0] (.seq (sr [mq 5 0,oo 6 (.len (tp 5) false),oo 7 (.mv (ci 0))] [0,5,6,7] (.block 0 (.loop (sr [oo 8 (.bin .lss (tp 7) (tp 6))] [0,5,6,7,8] (.seq (.cond (tp 8) .skip (.exit 0)) (.seq (.block 1 (sr [oo 9 (.idxA 2 (tp 5) (tp 7)),oo 10 (.load (some 2) (tp 9)),oo 4 (.alloc 90 [.pd (.raw (.string ⟨#[]⟩)),.pd (.raw (.string ⟨#[]⟩))]),.mk none none (.store 2 (tp 4) (tp 10))] [0,4,5,6,7] (sr [fi 11 0 4,lq 12 11,oo 13 (.bin .eql (tp 12) (.const (.string ⟨#[]⟩))),mq 14 13,og 14 false 15 (.fieldA 0 (tp 4)),og 14 false 16 (.load none (tp 15)),og 14 false 17 (.len (tp 16) true),og 14 false 18 (.bin .gtr (tp 17) (ci 40)),oo 19 (.pick (tp 14) (cq true) (tp 18)),mq 20 19,og 20 false 21 (.fieldA 1 (tp 4)),og 20 false 22 (.load none (tp 21)),og 20 false 23 (.len (tp 22) true),og 20 false 24 (.bin .gtr (tp 23) (ci 40)),oo 25 (.pick (tp 20) (cq true) (tp 24))] [0,5,6,7,25] (.cond (tp 25) (sr [oo 2 (.mv (cq false))] [2] .ret) .skip)))) (.region [oo 26 (.bin .add (tp 7) (ci 1)),mq 7 26] (some [0,5,6,7])))))))) (sr [mq 27 0,oo 28 (.len (tp 27) false),oo 29 (.bin .leq (tp 28) (ci 20)),mq 2 29] [2] .ret)))
def an_zr0tf : Ann := ann (List.range 8) ac_zr0tf
theorem ok_zr0tf : okd Tryz.prog an_zr0tf ac_zr0tf Tryz.f193 := ⟨by kernel_rfl, by kernel_rfl⟩

def ac_zixxy : AC := (sr [oo 4 (.mv (ci 0))] [0,1] (sr [mq 5 0,mq 6 1,oo 7 (.call 237 [tp 5,tp 6]),mq 4 7] [4] .ret))
def an_zixxy : Ann := ann (List.range 2) ac_zixxy
theorem ok_zixxy : okd Tryz.prog an_zixxy ac_zixxy Tryz.f220 := ⟨by kernel_rfl, by kernel_rfl⟩

def ac_zwtth : AC := (sr [oo 2 (.mv (cq false))] [0] (.seq (sr [mq 5 0,oo 6 (.len (tp 5) true),oo 7 (.mv (ci 0))] [0,6,7] (.block 0 (.loop (sr [oo 8 (.bin .lss (tp 7) (tp 6))] [0,6,7,8] (.seq (.cond (tp 8) .skip (.exit 0)) (.seq (.block 1 (sr [mq 9 7,mq 3 9] [0,3,6,7] (sr [mq 10 0,mq 11 3,oo 12 (.idxS (tp 10) (tp 11)),oo 13 (.bin .or (tp 12) (.const (.int .u8 32))),mq 4 13] [0,3,4,6,7] (sr [mq 14 4,oo 15 (.bin .geq (tp 14) (.const (.int .u8 97))),mq 16 15,og 16 true 17 (.mv (tp 4)),og 16 true 18 (.bin .leq (tp 17) (.const (.int .u8 122))),oo 19 (.pick (tp 16) (tp 18) (cq false)),mq 20 19,og 20 false 21 (.mv (tp 0)),og 20 false 22 (.mv (tp 3)),og 20 false 23 (.idxS (tp 21) (tp 22)),og 20 false 24 (.bin .geq (tp 23) (.const (.int .u8 48))),og 20 false 25 (.mv (tp 24)),og 25 true 26 (.mv (tp 0)),og 25 true 27 (.mv (tp 3)),og 25 true 28 (.idxS (tp 26) (tp 27)),og 25 true 29 (.bin .leq (tp 28) (.const (.int .u8 57))),og 20 false 30 (.pick (tp 25) (tp 29) (cq false)),oo 31 (.pick (tp 20) (cq true) (tp 30)),mq 32 31,og 32 false 33 (.mv (tp 0)),og 32 false 34 (.mv (tp 3)),og 32 false 35 (.idxS (tp 33) (tp 34)),og 32 false 36 (.call 220 [.const (.string ⟨#[33,35,36,37,38,39,42,43,45,46,94,95,96,124,126]⟩),tp 35]),og 32 false 37 (.bin .geq (tp 36) (ci 0)),oo 38 (.pick (tp 32) (cq true) (tp 37)),oo 39 (.un .not (tp 38))] [0,6,7,39] (.cond (tp 39) (sr [oo 2 (.mv (cq false))] [2] .ret) .skip))))) (.region [oo 40 (.bin .add (tp 7) (ci 1)),mq 7 40] (some [0,6,7])))))))) (sr [mq 41 0,oo 42 (.bin .neq (tp 41) (.const (.string ⟨#[]⟩))),mq 43 42,og 43 true 44 (.mv (tp 0)),og 43 true 45 (.len (tp 44) true),og 43 true 46 (.bin .leq (tp 45) (ci 40)),oo 47 (.pick (tp 43) (tp 46) (cq false)),mq 2 47] [2] .ret)))
def an_zwtth : Ann := ann (List.range 9) ac_zwtth
theorem ok_zwtth : okd Tryz.prog an_zwtth ac_zwtth Tryz.f186 := ⟨by kernel_rfl, by kernel_rfl⟩

def ac_z4wze : AC := (sr [oo 2 (.mv (cq false))] [0] (.seq (sr [mq 4 0,oo 5 (.len (tp 4) true),oo 6 (.mv (ci 0))] [0,5,6] (.block 0 (.loop (sr [oo 7 (.bin .lss (tp 6) (tp 5))] [0,5,6,7] (.seq (.cond (tp 7) .skip (.exit 0)) (.seq (.block 1 (sr [mq 8 6,mq 3 8] [0,3,5,6] (sr [mq 9 0,mq 10 3,oo 11 (.idxS (tp 9) (tp 10)),oo 12 (.bin .lss (tp 11) (.const (.int .u8 32))),mq 13 12,og 13 false 14 (.mv (tp 0)),og 13 false 15 (.mv (tp 3)),og 13 false 16 (.idxS (tp 14) (tp 15)),og 13 false 17 (.bin .gtr (tp 16) (.const (.int .u8 126))),oo 18 (.pick (tp 13) (cq true) (tp 17))] [0,5,6,18] (.cond (tp 18) (sr [oo 2 (.mv (cq false))] [2] .ret) .skip)))) (.region [oo 19 (.bin .add (tp 6) (ci 1)),mq 6 19] (some [0,5,6])))))))) (sr [mq 20 0,oo 21 (.len (tp 20) true),oo 22 (.bin .leq (tp 21) (ci 40)),mq 23 22,og 23 true 24 (.mv (tp 0)),og 23 true 25 (.call 221 [tp 24,.const (.string ⟨#[32]⟩)]),og 23 true 26 (.mv (tp 0)),og 23 true 27 (.bin .eql (tp 25) (tp 26)),oo 28 (.pick (tp 23) (tp 27) (cq false)),mq 2 28] [2] .ret)))
def an_z4wze : Ann := ann (List.range 8) ac_z4wze
theorem ok_z4wze : okd Tryz.prog an_z4wze ac_z4wze Tryz.f187 := ⟨by kernel_rfl, by kernel_rfl⟩

def ac_zmas7 : AC := (sr [oo 4 (.mv (.const (.string ⟨#[]⟩)))] [0,1] (.seq (sr [mq 7 0,oo 8 (.bin .eql (tp 7) (.const (.string ⟨#[]⟩))),mq 9 8,og 9 false 10 (.mv (tp 1)),og 9 false 11 (.bin .eql (tp 10) (.const (.string ⟨#[]⟩))),oo 12 (.pick (tp 9) (cq true) (tp 11))] [0,1,12] (.cond (tp 12) (sr [mq 13 0,mq 4 13] [4] .ret) .skip)) (.seq (sr [mq 14 1,oo 15 (.len (tp 14) true),oo 16 (.bin .eql (tp 15) (ci 1)),mq 17 16,og 17 true 18 (.mv (tp 1)),og 17 true 19 (.idxS (tp 18) (ci 0)),og 17 true 20 (.bin .lss (tp 19) (.const (.int .u8 128))),oo 21 (.pick (tp 17) (tp 20) (cq false))] [0,1,21] (.cond (tp 21) (.seq (.draw [mq 22 0,mq 23 1,oo 24 (.idxS (tp 23) (ci 0)),oo 25 (.call 239 [tp 22,tp 24]),mq 26 1,oo 27 (.idxS (tp 26) (ci 0)),oo 28 (.call 238 [tp 25,tp 27]),mq 4 28] [0,0,2,7,0,16,63,127] (.take 0 (.take 1 (.take 2 (.take 4 (.take 5 (.alts (.cons 3 false (.alts (.cons 6 true (.take 7 .done) .nil)) .nil))))))) (some [4])) .ret) .skip)) (.seq (sr [mq 30 1,oo 31 (.call 240 [tp 30]),mq 29 31,oo 32 (.extract (tp 29) 0),oo 33 (.extract (tp 29) 1),oo 5 (.alloc 206 [.pd (.raw (.bool false)),.pd (.raw (.bool false)),.pd (.raw (.bool false)),.pd (.raw (.bool false)),.pd (.raw (.bool false)),.pd (.raw (.bool false)),.pd (.raw (.bool false)),.pd (.raw (.bool false)),.pd (.raw (.bool false)),.pd (.raw (.bool false)),.pd (.raw (.bool false)),.pd (.raw (.bool false)),.pd (.raw (.bool false)),.pd (.raw (.bool false)),.pd (.raw (.bool false)),.pd (.raw (.bool false)),.pd (.raw (.bool false)),.pd (.raw (.bool false)),.pd (.raw (.bool false)),.pd (.raw (.bool false)),.pd (.raw (.bool false)),.pd (.raw (.bool false)),.pd (.raw (.bool false)),.pd (.raw (.bool false)),.pd (.raw (.bool false)),.pd (.raw (.bool false)),.pd (.raw (.bool false)),.pd (.raw (.bool false)),.pd (.raw (.bool false)),.pd (.raw (.bool false)),.pd (.raw (.bool false)),.pd (.raw (.bool false)),.pd (.raw (.bool false)),.pd (.raw (.bool false)),.pd (.raw (.bool false)),.pd (.raw (.bool false)),.pd (.raw (.bool false)),.pd (.raw (.bool false)),.pd (.raw (.bool false)),.pd (.raw (.bool false)),.pd (.raw (.bool false)),.pd (.raw (.bool false)),.pd (.raw (.bool false)),.pd (.raw (.bool false)),.pd (.raw (.bool false)),.pd (.raw (.bool false)),.pd (.raw (.bool false)),.pd (.raw (.bool false)),.pd (.raw (.bool false)),.pd (.raw (.bool false)),.pd (.raw (.bool false)),.pd (.raw (.bool false)),.pd (.raw (.bool false)),.pd (.raw (.bool false)),.pd (.raw (.bool false)),.pd (.raw (.bool false)),.pd (.raw (.bool false)),.pd (.raw (.bool false)),.pd (.raw (.bool false)),.pd (.raw (.bool false)),.pd (.raw (.bool false)),.pd (.raw (.bool false)),.pd (.raw (.bool false)),.pd (.raw (.bool false)),.pd (.raw (.bool false)),.pd (.raw (.bool false)),.pd (.raw (.bool false)),.pd (.raw (.bool false)),.pd (.raw (.bool false)),.pd (.raw (.bool false)),.pd (.raw (.bool false)),.pd (.raw (.bool false)),.pd (.raw (.bool false)),.pd (.raw (.bool false)),.pd (.raw (.bool false)),.pd (.raw (.bool false)),.pd (.raw (.bool false)),.pd (.raw (.bool false)),.pd (.raw (.bool false)),.pd (.raw (.bool false)),.pd (.raw (.bool false)),.pd (.raw (.bool false)),.pd (.raw (.bool false)),.pd (.raw (.bool false)),.pd (.raw (.bool false)),.pd (.raw (.bool false)),.pd (.raw (.bool false)),.pd (.raw (.bool false)),.pd (.raw (.bool false)),.pd (.raw (.bool false)),.pd (.raw (.bool false)),.pd (.raw (.bool false)),.pd (.raw (.bool false)),.pd (.raw (.bool false)),.pd (.raw (.bool false)),.pd (.raw (.bool false)),.pd (.raw (.bool false)),.pd (.raw (.bool false)),.pd (.raw (.bool false)),.pd (.raw (.bool false)),.pd (.raw (.bool false)),.pd (.raw (.bool false)),.pd (.raw (.bool false)),.pd (.raw (.bool false)),.pd (.raw (.bool false)),.pd (.raw (.bool false)),.pd (.raw (.bool false)),.pd (.raw (.bool false)),.pd (.raw (.bool false)),.pd (.raw (.bool false)),.pd (.raw (.bool false)),.pd (.raw (.bool false)),.pd (.raw (.bool false)),.pd (.raw (.bool false)),.pd (.raw (.bool false)),.pd (.raw (.bool false)),.pd (.raw (.bool false)),.pd (.raw (.bool false)),.pd (.raw (.bool false)),.pd (.raw (.bool false)),.pd (.raw (.bool false)),.pd (.raw (.bool false)),.pd (.raw (.bool false)),.pd (.raw (.bool false)),.pd (.raw (.bool false)),.pd (.raw (.bool false)),.pd (.raw (.bool false)),.pd (.raw (.bool false)),.pd (.raw (.bool false)),.pd (.raw (.bool false)),.pd (.raw (.bool false)),.pd (.raw (.bool false)),.pd (.raw (.bool false)),.pd (.raw (.bool false)),.pd (.raw (.bool false)),.pd (.raw (.bool false)),.pd (.raw (.bool false)),.pd (.raw (.bool false)),.pd (.raw (.bool false)),.pd (.raw (.bool false)),.pd (.raw (.bool false)),.pd (.raw (.bool false)),.pd (.raw (.bool false)),.pd (.raw (.bool false)),.pd (.raw (.bool false)),.pd (.raw (.bool false)),.pd (.raw (.bool false)),.pd (.raw (.bool false)),.pd (.raw (.bool false)),.pd (.raw (.bool false)),.pd (.raw (.bool false)),.pd (.raw (.bool false)),.pd (.raw (.bool false)),.pd (.raw (.bool false)),.pd (.raw (.bool false)),.pd (.raw (.bool false)),.pd (.raw (.bool false)),.pd (.raw (.bool false)),.pd (.raw (.bool false)),.pd (.raw (.bool false)),.pd (.raw (.bool false)),.pd (.raw (.bool false)),.pd (.raw (.bool false)),.pd (.raw (.bool false)),.pd (.raw (.bool false)),.pd (.raw (.bool false)),.pd (.raw (.bool false)),.pd (.raw (.bool false)),.pd (.raw (.bool false)),.pd (.raw (.bool false)),.pd (.raw (.bool false)),.pd (.raw (.bool false)),.pd (.raw (.bool false)),.pd (.raw (.bool false)),.pd (.raw (.bool false)),.pd (.raw (.bool false)),.pd (.raw (.bool false)),.pd (.raw (.bool false)),.pd (.raw (.bool false)),.pd (.raw (.bool false)),.pd (.raw (.bool false)),.pd (.raw (.bool false)),.pd (.raw (.bool false)),.pd (.raw (.bool false)),.pd (.raw (.bool false)),.pd (.raw (.bool false)),.pd (.raw (.bool false)),.pd (.raw (.bool false)),.pd (.raw (.bool false)),.pd (.raw (.bool false)),.pd (.raw (.bool false)),.pd (.raw (.bool false)),.pd (.raw (.bool false)),.pd (.raw (.bool false)),.pd (.raw (.bool false)),.pd (.raw (.bool false)),.pd (.raw (.bool false)),.pd (.raw (.bool false)),.pd (.raw (.bool false)),.pd (.raw (.bool false)),.pd (.raw (.bool false)),.pd (.raw (.bool false)),.pd (.raw (.bool false)),.pd (.raw (.bool false)),.pd (.raw (.bool false)),.pd (.raw (.bool false)),.pd (.raw (.bool false)),.pd (.raw (.bool false)),.pd (.raw (.bool false)),.pd (.raw (.bool false)),.pd (.raw (.bool false)),.pd (.raw (.bool false)),.pd (.raw (.bool false)),.pd (.raw (.bool false)),.pd (.raw (.bool false)),.pd (.raw (.bool false)),.pd (.raw (.bool false)),.pd (.raw (.bool false)),.pd (.raw (.bool false)),.pd (.raw (.bool false)),.pd (.raw (.bool false)),.pd (.raw (.bool false)),.pd (.raw (.bool false)),.pd (.raw (.bool false)),.pd (.raw (.bool false)),.pd (.raw (.bool false)),.pd (.raw (.bool false)),.pd (.raw (.bool false)),.pd (.raw (.bool false)),.pd (.raw (.bool false)),.pd (.raw (.bool false)),.pd (.raw (.bool false)),.pd (.raw (.bool false)),.pd (.raw (.bool false)),.pd (.raw (.bool false)),.pd (.raw (.bool false)),.pd (.raw (.bool false)),.pd (.raw (.bool false)),.pd (.raw (.bool false)),.pd (.raw (.bool false)),.pd (.raw (.bool false)),.pd (.raw (.bool false)),.pd (.raw (.bool false)),.pd (.raw (.bool false)),.pd (.raw (.bool false)),.pd (.raw (.bool false)),.pd (.raw (.bool false)),.pd (.raw (.bool false)),.pd (.raw (.bool false)),.pd (.raw (.bool false)),.pd (.raw (.bool false)),.pd (.raw (.bool false)),.pd (.raw (.bool false)),.pd (.raw (.bool false)),.pd (.raw (.bool false)),.pd (.raw (.bool false))]),.mk none none (.store 256 (tp 5) (tp 32)),mq 6 33] [0,1,5,6] (sr [mq 34 6] [0,1,5,34] (.cond (tp 34) (sr [mq 35 0,oo 36 (.call 242 [tp 35,tp 5]),oo 37 (.call 241 [tp 36,tp 5]),mq 4 37] [4] .ret) .skip))) (sr [mq 38 0,mq 39 1,oo 40 (.call 244 [tp 38,tp 39]),mq 41 1,oo 42 (.call 243 [tp 40,tp 41]),mq 4 42] [4] .ret)))))
def an_zmas7 : Ann := ann (List.range 9) ac_zmas7
theorem ok_zmas7 : okd Tryz.prog an_zmas7 ac_zmas7 Tryz.f221 := ⟨by kernel_rfl, by kernel_rfl⟩

def ac_zu0fc : AC := (sr [oo 4 (.mv (.const (.string ⟨#[]⟩)))] [0,1] (.seq (.block 0 (.loop (.seq (sr [mq 5 0,oo 6 (.len (tp 5) true),oo 7 (.bin .gtr (tp 6) (ci 0)),mq 8 7,og 8 true 9 (.mv (tp 0)),og 8 true 10 (.idxS (tp 9) (ci 0)),og 8 true 11 (.mv (tp 1)),og 8 true 12 (.bin .eql (tp 10) (tp 11)),oo 13 (.pick (tp 8) (tp 12) (cq false))] [0,1,13] (.cond (tp 13) .skip (.exit 0))) (.block 1 (.region [mq 14 0,oo 15 (.slcS (tp 14) (some (ci 1)) none),mq 0 15] (some [0,1])))))) (sr [mq 16 0,mq 4 16] [4] .ret)))
def an_zu0fc : Ann := ann (List.range 4) ac_zu0fc
theorem ok_zu0fc : okd Tryz.prog an_zu0fc ac_zu0fc Tryz.f238 := ⟨by kernel_rfl, by kernel_rfl⟩

def ac_zdteh : AC := (sr [oo 4 (.mv (.const (.string ⟨#[]⟩)))] [0,1] (.seq (.block 0 (.loop (.seq (sr [mq 5 0,oo 6 (.len (tp 5) true),oo 7 (.bin .gtr (tp 6) (ci 0)),mq 8 7,og 8 true 9 (.mv (tp 0)),og 8 true 10 (.mv (tp 0)),og 8 true 11 (.len (tp 10) true),og 8 true 12 (.bin .sub (tp 11) (ci 1)),og 8 true 13 (.idxS (tp 9) (tp 12)),og 8 true 14 (.mv (tp 1)),og 8 true 15 (.bin .eql (tp 13) (tp 14)),oo 16 (.pick (tp 8) (tp 15) (cq false))] [0,1,16] (.cond (tp 16) .skip (.exit 0))) (.block 1 (.region [mq 17 0,mq 18 0,oo 19 (.len (tp 18) true),oo 20 (.bin .sub (tp 19) (ci 1)),oo 21 (.slcS (tp 17) none (some (tp 20))),mq 0 21] (some [0,1])))))) (sr [mq 22 0,mq 4 22] [4] .ret)))
def an_zdteh : Ann := ann (List.range 4) ac_zdteh
theorem ok_zdteh : okd Tryz.prog an_zdteh ac_zdteh Tryz.f239 := ⟨by kernel_rfl, by kernel_rfl⟩

def ac_zrrew : AC := (sr [oo 4 (.mv (cq false))] [0,1] (sr [mq 5 0,oo 6 (.call 226 [tp 5]),mq 7 1,oo 8 (.call 226 [tp 7]),oo 9 (.bin .eql (tp 6) (tp 8)),mq 4 9] [4] .ret))
def an_zrrew : Ann := ann (List.range 2) ac_zrrew
theorem ok_zrrew : okd Tryz.prog an_zrrew ac_zrrew Tryz.f192 := ⟨by kernel_rfl, by kernel_rfl⟩

def ac_zjt8m : AC := (sr [oo 2 (.mv (cq false))] [0] (sr [oo 3 (.mv (.func 224))] [0,3] (sr [mq 4 0,oo 5 (.bin .neq (tp 4) (.const (.string ⟨#[]⟩))),mq 6 5,og 6 true 7 (.mv (tp 0)),og 6 true 8 (.len (tp 7) true),og 6 true 9 (.bin .leq (tp 8) (ci 10)),oo 10 (.pick (tp 6) (tp 9) (cq false)),mq 11 10,og 11 true 12 (.mv (tp 0)),og 11 true 13 (.mv (tp 3)),og 11 true 14 (.call 158 [tp 12,tp 13]),og 11 true 15 (.bin .lss (tp 14) (ci 0)),oo 16 (.pick (tp 11) (tp 15) (cq false)),mq 2 16] [2] .ret)))
def an_zjt8m : Ann := ann (List.range 3) ac_zjt8m
theorem ok_zjt8m : okd Tryz.prog an_zjt8m ac_zjt8m Tryz.f189 := ⟨by kernel_rfl, by kernel_rfl⟩

def ac_zluy0 : AC := (sr [oo 2 (.mv (cq false))] [0] (sr [mq 3 0,oo 4 (.bin .lss (tp 3) (.const (.int .i32 65))),mq 5 4,og 5 false 6 (.mv (tp 0)),og 5 false 7 (.bin .gtr (tp 6) (.const (.int .i32 90))),oo 8 (.pick (tp 5) (cq true) (tp 7)),mq 2 8] [2] .ret))
def an_zluy0 : Ann := ann (List.range 2) ac_zluy0
theorem ok_zluy0 : okd Tryz.prog an_zluy0 ac_zluy0 Tryz.f224 := ⟨by kernel_rfl, by kernel_rfl⟩

end Go.Proofs.YtcnhcamimcpinaaGreatDoor


namespace Go.Proofs.YtcnhcamimcpinaaGreatDoor
open Go Go.RowKit
set_option linter.unusedSimpArgs false
set_option linter.unusedVariables false
set_option maxRecDepth 100000

abbrev i32 (n : Int) : D := .pd (.raw (.int .i32 n))
abbrev u8 (n : Int) : D := .pd (.raw (.int .u8 n))

def octet (c : Int) : Bool := (decide (97 ≤ c) && decide (c ≤ 122)) || (decide (48 ≤ c) && decide (c ≤ 57)) || decide (c = 45)

theorem dns_octet (c : Int) : Pure Tryz.prog 157 [i32 c] (fun d => d = bln (octet c)) := by
 refine pure_of_run follows an_zsl5t Tryz.func157 rfl ok_zsl5t.1 ok_zsl5t.2 (by simp [Tryz.ntmps157]) ?_
 rw [run_start]
 simp only [ac_zsl5t, go_sem, contS_seq, simprocAttr]
 repeat' (first | refine GifP.mk (fun _ => ?_) (fun _ => ?_) | refine Gif.mk (fun _ => ?_) (fun _ => ?_))
 all_goals
  simp only [retK, resD, retL, oneD, simprocAttr, Tryz.results157]
  exact ⟨_, rfl, rfl, congrArg bln (by first | rfl | (rw [Bool.eq_iff_iff]; simp only [octet]; (first | (simp; done) | (simp; omega) | (simp [*]; done) | (simp [*]; omega))) | (simp_all [octet]; done) | (exfalso; omega))⟩

theorem dns_Label_1 (c : Int) : Pure Tryz.prog 156 [i32 c] (fun d => d = bln (!octet c)) := by
 refine pure_of_run follows an_zmcx0 Tryz.func156 rfl ok_zmcx0.1 ok_zmcx0.2 (by simp [Tryz.ntmps156]) ?_
 rw [run_start]
 simp only [ac_zmcx0, go_sem, contS_seq, simprocAttr]
 refine (dns_octet _).callW (enters_of Tryz.func157 rfl rfl) _ rfl rfl ?_
 rintro d rfl
 simp only [go_sem, contS_seq, simprocAttr]
 simp only [retK, resD, retL, oneD, simprocAttr, Tryz.results156]
 exact ⟨_, rfl, rfl, rfl⟩

def runeIdx (p : Int → Bool) (s : ByteArray) : Nat → Nat → Int
 | 0, _ => -1
 | f + 1, pos => if pos < s.size then (if p (Utf8.decode s pos).1 then (pos : Int) else runeIdx p s f (pos + (Utf8.decode s pos).2)) else -1

theorem width_pos (s : ByteArray) (pos : Nat) : 1 ≤ (Utf8.decode s pos).2 := by
 unfold Utf8.decode
 dsimp only
 repeat' split
 all_goals simp

theorem runeIdx_end {p : Int → Bool} {s : ByteArray} {f pos : Nat} (h : ¬ pos < s.size) : runeIdx p s f pos = -1 := by cases f <;> simp [runeIdx, h]

theorem strings_indexFunc (p : Int → Bool) (f : FuncId) (he : Enters Tryz.prog f) (hp : ∀ c, Pure Tryz.prog f [i32 c] (fun d => d = bln (p c))) (s : ByteArray) :
 Pure Tryz.prog 201 [str s, .fn f [], bln true] (fun d => d = int (runeIdx p s s.size 0)) := by
 refine pure_of_run follows an_zkca0 Tryz.func201 rfl ok_zkca0.1 ok_zkca0.2 (by simp [Tryz.ntmps201]) ?_
 rw [run_start]
 simp only [ac_zkca0, go_sem, contS_seq, simprocAttr]
 refine loopS (fun k st => ∃ pos : Nat, s.size ≤ pos + k ∧ runeIdx p s k pos = runeIdx p s s.size 0 ∧
  st = ⟨[(1, .fn f []), (2, bln true), (10, .ptr 10 0)], [], [(10, .sit s pos)], .no⟩) s.size _ (Weak.refl _ _) ⟨0, by omega, rfl, rfl⟩ ?_
 rintro k st ⟨pos, hk, hr, rfl⟩
 by_cases hlt : pos < s.size
 ·obtain ⟨k, rfl⟩ : ∃ m, k = m + 1 := ⟨k - 1, by omega⟩
  have hw := width_pos s pos
  simp only [go_sem, contS_seq, simprocAttr, hlt]
  refine (hp _).callW he _ rfl rfl ?_
  rintro d rfl
  simp only [runeIdx, hlt, if_true] at hr
  simp only [go_sem, contS_seq, simprocAttr]
  refine ⟨fun h => ?_, fun h => ?_⟩
  ·simp only [retK, resD, retL, oneD, simprocAttr, Tryz.results201]
   simp at h
   simp only [h, if_true] at hr
   exact ⟨_, rfl, rfl, congrArg int hr⟩
  ·simp at h
   simp only [h, Bool.false_eq_true, if_false] at hr
   refine ⟨k, _, ?_, ?_, pos + (Utf8.decode s pos).2, ?_, hr, rfl⟩
   ·omega
   ·exact lessA
   ·omega
 ·simp only [go_sem, contS_seq, simprocAttr, hlt]
  simp only [retK, resD, retL, oneD, simprocAttr, Tryz.results201]
  rw [runeIdx_end hlt] at hr
  exact ⟨_, rfl, rfl, congrArg int hr⟩

theorem strings_IndexFunc (p : Int → Bool) (f : FuncId) (he : Enters Tryz.prog f) (hp : ∀ c, Pure Tryz.prog f [i32 c] (fun d => d = bln (p c))) (s : ByteArray) :
 Pure Tryz.prog 158 [str s, .fn f []] (fun d => d = int (runeIdx p s s.size 0)) := by
 refine pure_of_run follows an_zgrrf Tryz.func158 rfl ok_zgrrf.1 ok_zgrrf.2 (by simp [Tryz.ntmps158]) ?_
 rw [run_start]
 simp only [ac_zgrrf, go_sem, contS_seq, simprocAttr]
 refine (strings_indexFunc p f he hp s).callW (enters_of Tryz.func201 rfl rfl) _ rfl rfl ?_
 rintro d rfl
 simp only [go_sem, contS_seq, simprocAttr]
 simp only [retK, resD, retL, oneD, simprocAttr, Tryz.results158]
 exact ⟨_, rfl, rfl, rfl⟩

def label (s : ByteArray) : Bool :=
 !decide (s = ⟨#[]⟩) && decide (s.size ≤ 20) && decide (runeIdx (fun c => !octet c) s s.size 0 < 0) && (match s[0]? with | some b => !decide (b.toNat = 45) | none => false) && (match s[s.size - 1]? with | some b => !decide (b.toNat = 45) | none => false)

theorem at_byte {s : ByteArray} {i : Nat} (h : i < s.size) : ∃ b, s[i]? = some b := ⟨s[i], by simp [h]⟩

theorem size_pos {s : ByteArray} (h : s ≠ ⟨#[]⟩) : 0 < s.size := by
 rcases Nat.eq_zero_or_pos s.size with h0 | h0
 ·exact absurd (by cases s with | mk a => simp only [ByteArray.size] at h0; rw [Array.eq_empty_of_size_eq_zero h0]) h
 ·exact h0

theorem dns_Label (s : ByteArray) : Pure Tryz.prog 104 [str s] (fun d => d = bln (label s)) := by
 refine pure_of_run follows an_zovze Tryz.func104 rfl ok_zovze.1 ok_zovze.2 (by simp [Tryz.ntmps104]) ?_
 rw [run_start]
 simp only [ac_zovze, go_sem, contS_seq, simprocAttr]
 refine GifP.mk (fun h1 => ?_) (fun h1 => ?_)
 ·simp only [retK, resD, retL, oneD, simprocAttr, Tryz.results104]
  exact ⟨_, rfl, rfl, congrArg bln (by simp [label, h1])⟩
 have hpos := size_pos h1
 refine GifP.mk (fun h2 => ?_) (fun h2 => ?_)
 rotate_left
 ·simp only [retK, resD, retL, oneD, simprocAttr, Tryz.results104]
  exact ⟨_, rfl, rfl, congrArg bln (by simp [label]; omega)⟩
 refine (strings_IndexFunc _ _ (enters_of Tryz.func156 rfl rfl) dns_Label_1 s).callW (enters_of Tryz.func158 rfl rfl) _ rfl rfl ?_
 rintro d rfl
 obtain ⟨b0, hb0⟩ : ∃ b, s[0]? = some b := at_byte hpos
 obtain ⟨b1, hb1⟩ : ∃ b, s[s.size - 1]? = some b := at_byte (by omega)
 have hw : IntKind.i64.wrap ((s.size : Int) - 1) = ((s.size - 1 : Nat) : Int) := by rw [IntWalk.i64_in _ (by omega)]; omega
 simp only [go_sem, contS_seq, simprocAttr, hb0, hb1, hw]
 have h20 : s.size ≤ 20 := by omega
 repeat' (first | refine GifP.mk (fun _ => ?_) (fun _ => ?_) | refine Gif.mk (fun _ => ?_) (fun _ => ?_))
 all_goals
  simp only [retK, resD, retL, oneD, simprocAttr, Tryz.results104]
  exact ⟨_, rfl, rfl, congrArg bln (by first | rfl | (rw [Bool.eq_iff_iff]; simp only [label, hb0, hb1, h1, h20]; (first | (simp; done) | (simp; omega) | (simp [*]; done) | (simp [*]; omega))) | (simp_all [label, hb0, hb1, h1, h20]; done) | (exfalso; omega))⟩


theorem pure_of_calls {P : Program} {f : FuncId} {args : List D} {vs : List Value} {v : Value} {d : D} (ha : ∀ g w us, Reps g w args us → us = vs) (hd : d.closed = true) (hv : ∀ g w, Rep g w d v)
 (h : ∀ w, Calls P f vs.toArray w fun e w' => e = .returned v ∧ w' = w) : Pure P f args (fun x => x = d) := by
 intro Fz w us hlt hr
 obtain rfl := ha _ _ _ hr
 refine (h w).mono ?_
 rintro e w' ⟨rfl, rfl⟩
 exact ⟨v, d, Fz, rfl, rfl, hd, Below.refl _ _, Ex.refl _ _, hlt, fun _ _ h _ => h, hv _ _⟩

set_option maxHeartbeats 1000000 in
set_option maxRecDepth 100000 in
theorem run_stringslite_IndexByte (s : ByteArray) (c : Int) (w : World) :
 Calls Tryz.prog 237 #[.string s, .int .u8 c] w fun e w' => e = .returned (.int .i64 (Lib.indexByte s.data.toList c.toNat.toUInt8)) ∧ w' = w := by
 go_enter Tryz.func237, Tryz.ntmps237
 go_wp2
 rw [run_callFunc_extern Tryz.func249 (by kernel_rfl) (by kernel_rfl) (by kernel_rfl) (e := Extern.BytealgIndexByte.indexByte) (by kernel_rfl), Lib.run_indexByteString]
 simp only [Result.andThen]
 rw [Oper.upon_value]
 go_wp2
 go_ret
 exact ⟨rfl, rfl⟩

theorem rep_raw_inv {g : Gh} {w : World} {v u : Value} (h : Rep g w (.pd (.raw v)) u) : u = v := by
 simp only [Rep] at h
 cases h; rfl

theorem reps_two {g : Gh} {w : World} {a b : Value} {us : List Value} (h : Reps g w [.pd (.raw a), .pd (.raw b)] us) : us = [a, b] := by
 simp only [Reps] at h
 obtain ⟨x, r, rfl, hx, y, r', rfl, hy, rfl⟩ := h
 rw [rep_raw_inv hx, rep_raw_inv hy]

theorem stringslite_IndexByte (s : ByteArray) (c : Int) : Pure Tryz.prog 237 [str s, u8 c] (fun d => d = int (Lib.indexByte s.data.toList c.toNat.toUInt8)) :=
 pure_of_calls (vs := [.string s, .int .u8 c]) (v := .int .i64 (Lib.indexByte s.data.toList c.toNat.toUInt8)) (fun _ _ _ h => reps_two h) rfl (fun _ _ => by simp only [Rep]; exact .raw _ rfl) (run_stringslite_IndexByte s c)

theorem strings_IndexByte (s : ByteArray) (c : Int) : Pure Tryz.prog 220 [str s, u8 c] (fun d => d = int (Lib.indexByte s.data.toList c.toNat.toUInt8)) := by
 refine pure_of_run follows an_zixxy Tryz.func220 rfl ok_zixxy.1 ok_zixxy.2 (by simp [Tryz.ntmps220]) ?_
 rw [run_start]
 simp only [ac_zixxy, go_sem, contS_seq, simprocAttr]
 refine (stringslite_IndexByte s c).callW (enters_of Tryz.func237 rfl rfl) _ rfl rfl ?_
 rintro d rfl
 simp only [go_sem, contS_seq, simprocAttr]
 simp only [retK, resD, retL, oneD, simprocAttr, Tryz.results220]
 exact ⟨_, rfl, rfl, rfl⟩

theorem stringslite_Index (s : ByteArray) (c : UInt8) : Pure Tryz.prog 236 [str s, str ⟨#[c]⟩] (fun d => d = int (Lib.indexByte s.data.toList c)) := by
 refine pure_of_run follows an_zn6ys Tryz.func236 rfl ok_zn6ys.1 ok_zn6ys.2 (by simp [Tryz.ntmps236]) ?_
 rw [run_start]
 have h1 : (ByteArray.mk #[c]).size = 1 := rfl
 have h2 : (ByteArray.mk #[c])[0]? = some c := rfl
 have h3 : ((1 : Nat) : Int) = 1 := rfl
 have h4 : ((1 : Int) = 0) = False := by simp
 simp only [ac_zn6ys, go_sem, contS_seq, simprocAttr, h1, h2, h3, h4]
 refine GifP.mk (fun he => ?_) (fun he => ?_)
 ·simp only [retK, resD, retL, oneD, simprocAttr, Tryz.results236]
  exact ⟨_, rfl, rfl, congrArg int (by rw [← he]; simp [Lib.indexByte])⟩
 refine (stringslite_IndexByte s c.toNat).callW (enters_of Tryz.func237 rfl rfl) _ rfl rfl ?_
 rintro d rfl
 simp only [go_sem, contS_seq, simprocAttr]
 simp only [retK, resD, retL, oneD, simprocAttr, Tryz.results236]
 exact ⟨_, rfl, rfl, congrArg int (by simp)⟩

theorem strings_Index (s : ByteArray) (c : UInt8) : Pure Tryz.prog 217 [str s, str ⟨#[c]⟩] (fun d => d = int (Lib.indexByte s.data.toList c)) := by
 refine pure_of_run follows an_z89f Tryz.func217 rfl ok_z89f.1 ok_z89f.2 (by simp [Tryz.ntmps217]) ?_
 rw [run_start]
 simp only [ac_z89f, go_sem, contS_seq, simprocAttr]
 refine (stringslite_Index s c).callW (enters_of Tryz.func236 rfl rfl) _ rfl rfl ?_
 rintro d rfl
 simp only [go_sem, contS_seq, simprocAttr]
 simp only [retK, resD, retL, oneD, simprocAttr, Tryz.results217]
 exact ⟨_, rfl, rfl, rfl⟩

def splitB (c : UInt8) : Nat → ByteArray → List ByteArray
 | 0, s => [s]
 | f + 1, s => if Lib.indexByte s.data.toList c < 0 then [s] else s.extract 0 (Lib.indexByte s.data.toList c).toNat :: splitB c f (s.extract ((Lib.indexByte s.data.toList c).toNat + 1) s.size)

theorem indexByte_lt : ∀ (l : List UInt8) (c : UInt8), Lib.indexByte l c < 0 ∨ Lib.indexByte l c < l.length
 | [], c => by simp [Lib.indexByte]
 | b :: l, c => by
   have := indexByte_lt l c
   simp only [Lib.indexByte, List.length_cons]
   split
   ·right; omega
   ·split
    ·left; decide
    ·right; rename_i h1 h2; have := Lib.indexByte_ge l c; simp at h2; omega

theorem size_list (s : ByteArray) : s.data.toList.length = s.size := rfl

theorem drop_cons_at {α : Type} {l r : List α} {i : Nat} {x : α} (h : l.drop i = x :: r) : l[i]? = some x ∧ l.drop (i + 1) = r := by
 constructor
 ·have := congrArg (fun m => m[0]?) h
  simpa using this
 ·have := congrArg (fun m => m.drop 1) h
  simpa [List.drop_drop] using this

theorem splitB_end {c : UInt8} {k : Nat} {r : ByteArray} (h : Lib.indexByte r.data.toList c < 0) : splitB c k r = [r] := by
 cases k <;> simp [splitB, h]

set_option maxRecDepth 100000 in
theorem splitSeq_1 (c : UInt8) (s : ByteArray) (hs : s.size ≤ 1000000) : IterB Tryz.prog 215 [(500001, 0), (500002, 0), (500003, 0)] [(500001, [str ⟨#[c]⟩]), (500002, [str s]), (500003, [int 0])] ((splitB c s.size s).map Value.string) := by
 refine iter_of_run follows an_zjcnn Tryz.func215 rfl ok_zjcnn.1 ok_zjcnn.2 (by simp [Tryz.ntmps215]) rfl ?_
 intro l
 rw [run_start]
 have h1 : (ByteArray.mk #[c]).size = 1 := rfl
 have h3 : ((1 : Nat) : Int) = 1 := rfl
 have h4 : ((1 : Int) = 0) = False := by simp
 obtain ⟨X, hX⟩ : ∃ X, X = ((splitB c s.size s).map Value.string).map ([·]) := ⟨_, rfl⟩
 rw [← hX]
 simp only [ac_zjcnn, go_sem, contS_seq, simprocAttr, h1, h3, h4]
 refine loopS (fun k st => ∃ (i : Nat) (r : ByteArray), r.size ≤ k ∧ r.size ≤ 1000000 ∧ X.drop i = ((splitB c k r).map Value.string).map ([·]) ∧
  st = ⟨[(0, yieldD l), (1, .ptr 500001 0), (2, .ptr 500002 0), (3, .ptr 500003 0)], [(500001, [str ⟨#[c]⟩]), (500002, [str r]), (500003, [int 0])], [], .it l X i false⟩) s.size _ ?_ ⟨0, s, Nat.le_refl _, hs, hX, rfl⟩ ?_
 ·exact lessA
 rintro k st ⟨i, r, hk, hrs, hdr, rfl⟩
 obtain ⟨j, hj⟩ : ∃ j, Lib.indexByte r.data.toList c = j := ⟨_, rfl⟩
 simp only [go_sem, contS_seq, simprocAttr]
 refine (strings_Index r c).callW (enters_of Tryz.func217 rfl rfl) _ rfl rfl ?_
 rintro d rfl
 rw [hj]
 by_cases hj0 : j < 0
 ·rw [splitB_end (by omega)] at hdr
  obtain ⟨e1, e2⟩ := drop_cons_at hdr
  have e3 : X.length ≤ i + 1 := by simpa using List.drop_eq_nil_iff.1 e2
  have e4 : i < X.length := (List.getElem?_eq_some_iff.1 e1).1
  simp only [go_sem, contS_seq, simprocAttr, hj0, e1]
  exact ⟨⟨[], _, _, rfl, rfl, fun _ => by omega⟩, ⟨[], _, _, rfl, rfl, fun h => by cases h⟩⟩
 ·obtain ⟨m, rfl⟩ : ∃ m : Nat, j = m := ⟨j.toNat, by omega⟩
  have hm : m < r.size := by
   have := indexByte_lt r.data.toList c
   rw [hj, size_list] at this
   omega
  obtain ⟨k, rfl⟩ : ∃ n, k = n + 1 := ⟨k - 1, by omega⟩
  have hsp : splitB c (k + 1) r = r.extract 0 m :: splitB c k (r.extract (m + 1) r.size) := by
   rw [splitB, hj, if_neg hj0, Int.toNat_natCast]
  rw [hsp] at hdr
  obtain ⟨e1, e2⟩ := drop_cons_at hdr
  have w1 : IntKind.i64.wrap ((m : Int) + 0) = (m : Int) := by rw [IntWalk.i64_in _ (by omega)]; omega
  have w2 : IntKind.i64.wrap ((m : Int) + 1) = ((m + 1 : Nat) : Int) := by rw [IntWalk.i64_in _ (by omega)]; omega
  have c1 : (m ≤ r.size) = True := by simp; omega
  have c2 : (m + 1 ≤ r.size) = True := by simp; omega
  have hsz : (r.extract (m + 1) r.size).size = r.size - (m + 1) := by simp [ByteArray.size_extract]
  simp only [go_sem, contS_seq, simprocAttr, hj0, w1, w2, h1, h3, c1, c2, e1]
  refine ⟨⟨k, _, ?_, ?_, i + 1, r.extract (m + 1) r.size, ?_, ?_, e2, rfl⟩, ⟨[], _, _, rfl, rfl, fun h => by cases h⟩⟩
  ·omega
  ·exact lessA
  ·omega
  ·omega

theorem strings_splitSeq (s sep : ByteArray) : Full Tryz.prog 177 [str s, str sep, int 0] [] true (fun d bs => d = .fn 215 [(4, 0), (3, 0), (5, 0)] ∧ bs = [(4, [str sep]), (3, [str s]), (5, [int 0])]) := by
 refine full_of_run follows an_z70r5 Tryz.func177 rfl ok_z70r5.1 ok_z70r5.2 (by simp [Tryz.ntmps177]) (by simp [Tryz.ntmps177]) (.inl rfl) ?_
 rw [run_start]
 simp only [ac_z70r5, go_sem, contS_seq, simprocAttr]
 simp only [retK, fullK, resD, retL, oneD, simprocAttr, Tryz.results177]
 exact ⟨_, _, rfl, by simp [lessL, lk], rfl, rfl⟩

theorem strings_SplitSeq (s sep : ByteArray) : Full Tryz.prog 137 [str s, str sep] [] true (fun d bs => d = .fn 215 [(200001, 0), (200002, 0), (200003, 0)] ∧ bs = [(200001, [str sep]), (200002, [str s]), (200003, [int 0])]) := by
 refine full_of_run follows an_zln7r Tryz.func137 rfl ok_zln7r.1 ok_zln7r.2 (by simp [Tryz.ntmps137]) (by simp [Tryz.ntmps137]) (.inl rfl) ?_
 rw [run_start]
 simp only [ac_zln7r, go_sem, contS_seq, simprocAttr]
 refine (strings_splitSeq s sep).callW (enters_of Tryz.func177 rfl rfl) _ false [] [] [(4, 200001), (3, 200002), (5, 200003)] [] rfl rfl rfl ?_
 rintro d bs ⟨rfl, rfl⟩
 simp only [go_sem, contS_seq, simprocAttr]
 simp only [retK, fullK, resD, retL, oneD, simprocAttr, Tryz.results137]
 exact ⟨_, _, rfl, by simp [lessL, lk], rfl, rfl⟩

def dname (s : ByteArray) : Bool := decide (s.size ≤ 60) && (splitB 46 s.size s).all label

set_option maxRecDepth 100000 in
theorem dns_Name (s : ByteArray) : Pure Tryz.prog 87 [str s] (fun d => d = bln (dname s)) := by
 refine pure_of_run follows an_zmldt Tryz.func87 rfl ok_zmldt.1 ok_zmldt.2 (by simp [Tryz.ntmps87]) ?_
 rw [run_start]
 simp only [ac_zmldt, go_sem, contS_seq, simprocAttr]
 refine GifP.mk (fun h => ?_) (fun h => ?_)
 ·simp only [retK, iterK, resD, resA, AOp.ex, St.ev, retL, oneD, simprocAttr, ret_zmldt]
  exact ⟨_, rfl, rfl, congrArg bln (by simp only [dname]; simp; omega)⟩
 have h60 : s.size ≤ 60 := by omega
 refine (strings_SplitSeq s ⟨#[46]⟩).callW (enters_of Tryz.func137 rfl rfl) _ false [] [] [(200001, 200011), (200002, 200012), (200003, 200013)] [] rfl rfl rfl ?_
 rintro d bs ⟨rfl, rfl⟩
 simp only [go_sem, contS_seq, simprocAttr]
 refine rangeS ((splitB 46 s.size s).map Value.string) (fun i bs => (∀ j x, j < i → (splitB 46 s.size s)[j]? = some x → label x = true) ∧ bs = [(2, [bln false])]) rfl rfl rfl
  ((splitSeq_1 46 s (by omega)).iterW (enters_of Tryz.func215 rfl rfl) false [(200011, 500001), (200012, 500002), (200013, 500003)] rfl rfl rfl) ⟨fun _ _ h => absurd h (Nat.not_lt_zero _), rfl⟩ ?_ ?_
 ·rintro i v bs hv ⟨hpre, rfl⟩
  rw [List.getElem?_map] at hv
  obtain ⟨x, hx, rfl⟩ := Option.map_eq_some_iff.1 hv
  simp only [go_sem, contS_seq, simprocAttr]
  refine (dns_Label x).callW (enters_of Tryz.func104 rfl rfl) _ rfl rfl ?_
  rintro d rfl
  simp only [go_sem, contS_seq, simprocAttr]
  refine Gif.mk (fun hl => ?_) (fun hl => ?_)
  ·refine fun j y hj hy => ?_
   rcases Nat.lt_or_ge j i with h' | h'
   ·exact hpre j y h' hy
   ·obtain rfl : j = i := by omega
    rw [hx] at hy; cases hy; exact hl
  ·simp only [retK, iterK, resD, resA, AOp.ex, St.ev, retL, oneD, simprocAttr, ret_zmldt]
   refine ⟨_, rfl, rfl, congrArg bln ?_⟩
   have : (splitB 46 s.size s).all label = false := List.all_eq_false.2 ⟨x, List.mem_of_getElem? hx, by simp [hl]⟩
   simp [dname, this]
 ·rintro bs ⟨hall, rfl⟩
  simp only [go_sem, contS_seq, simprocAttr]
  simp only [retK, iterK, resD, resA, AOp.ex, St.ev, retL, oneD, simprocAttr, ret_zmldt]
  refine ⟨_, rfl, rfl, congrArg bln ?_⟩
  have : (splitB 46 s.size s).all label = true := List.all_eq_true.2 fun x hx => by
   obtain ⟨j, hj⟩ := List.getElem?_of_mem hx
   exact hall j x (by have := (List.getElem?_eq_some_iff.1 hj).1; simpa using this) hj
  simp [dname, this, h60]


def hasPrefix (s p : ByteArray) : Bool := decide (p.size ≤ s.size) && decide (s.extract 0 p.size = p)
def hasSuffix (s p : ByteArray) : Bool := decide (p.size ≤ s.size) && decide (s.extract (s.size - p.size) s.size = p)

theorem stringslite_HasPrefix (s p : ByteArray) : Pure Tryz.prog 218 [str s, str p] (fun d => d = bln (hasPrefix s p)) := by
 refine pure_of_run follows an_zntfc Tryz.func218 rfl ok_zntfc.1 ok_zntfc.2 (by simp [Tryz.ntmps218]) ?_
 rw [run_start]
 by_cases h : p.size ≤ s.size
 ·have h1 : ((p.size : Int) ≤ (s.size : Int)) = True := by simp; omega
  have h2 : (p.size ≤ s.size) = True := by simp [h]
  simp only [ac_zntfc, go_sem, contS_seq, simprocAttr, h1, h2]
  simp only [retK, resD, retL, oneD, simprocAttr, Tryz.results218]
  exact ⟨_, rfl, rfl, congrArg bln (by simp [hasPrefix, h])⟩
 ·have h1 : ((p.size : Int) ≤ (s.size : Int)) = False := by simp; omega
  simp only [ac_zntfc, go_sem, contS_seq, simprocAttr, h1]
  simp only [retK, resD, retL, oneD, simprocAttr, Tryz.results218]
  exact ⟨_, rfl, rfl, congrArg bln (by simp [hasPrefix, h])⟩

theorem stringslite_HasSuffix (s p : ByteArray) (hs : s.size ≤ 1000000) : Pure Tryz.prog 230 [str s, str p] (fun d => d = bln (hasSuffix s p)) := by
 refine pure_of_run follows an_z30tk Tryz.func230 rfl ok_z30tk.1 ok_z30tk.2 (by simp [Tryz.ntmps230]) ?_
 rw [run_start]
 by_cases h : p.size ≤ s.size
 ·have h1 : ((p.size : Int) ≤ (s.size : Int)) = True := by simp; omega
  have h2 : (s.size - p.size ≤ s.size) = True := by simp
  have h3 : IntKind.i64.wrap ((s.size : Int) - (p.size : Int)) = ((s.size - p.size : Nat) : Int) := by rw [IntWalk.i64_in _ (by omega)]; omega
  simp only [ac_z30tk, go_sem, contS_seq, simprocAttr, h1, h2, h3]
  simp only [retK, resD, retL, oneD, simprocAttr, Tryz.results230]
  exact ⟨_, rfl, rfl, congrArg bln (by simp [hasSuffix, h])⟩
 ·have h1 : ((p.size : Int) ≤ (s.size : Int)) = False := by simp; omega
  simp only [ac_z30tk, go_sem, contS_seq, simprocAttr, h1]
  simp only [retK, resD, retL, oneD, simprocAttr, Tryz.results230]
  exact ⟨_, rfl, rfl, congrArg bln (by simp [hasSuffix, h])⟩

theorem strings_HasPrefix (s p : ByteArray) : Pure Tryz.prog 245 [str s, str p] (fun d => d = bln (hasPrefix s p)) := by
 refine pure_of_run follows an_zc2tl Tryz.func245 rfl ok_zc2tl.1 ok_zc2tl.2 (by simp [Tryz.ntmps245]) ?_
 rw [run_start]
 simp only [ac_zc2tl, go_sem, contS_seq, simprocAttr]
 (repeat' (first | (refine GifP.mk (fun _ => ?_) (fun _ => ?_)) | (refine Gif.mk (fun _ => ?_) (fun _ => ?_)) | (refine (stringslite_HasPrefix _ _).callW (enters_of Tryz.func218 rfl rfl) _ rfl rfl ?_; rintro _ rfl; try simp only [go_sem, contS_seq, simprocAttr]))) <;> (simp only [retK, resD, retL, oneD, simprocAttr, Tryz.results245]; exact ⟨_, rfl, rfl, congrArg bln (by first | rfl | (rw [Bool.eq_iff_iff]; simp only [hasPrefix]; (first | (simp; done) | (simp; omega) | (simp [*]; done) | (simp [*]; omega))) | (simp_all [hasPrefix]; done) | (exfalso; omega))⟩)

theorem strings_HasSuffix (s p : ByteArray) (hs : s.size ≤ 1000000) : Pure Tryz.prog 205 [str s, str p] (fun d => d = bln (hasSuffix s p)) := by
 refine pure_of_run follows an_zq3h5 Tryz.func205 rfl ok_zq3h5.1 ok_zq3h5.2 (by simp [Tryz.ntmps205]) ?_
 rw [run_start]
 simp only [ac_zq3h5, go_sem, contS_seq, simprocAttr]
 (repeat' (first | (refine GifP.mk (fun _ => ?_) (fun _ => ?_)) | (refine Gif.mk (fun _ => ?_) (fun _ => ?_)) | (refine (stringslite_HasSuffix _ _ hs).callW (enters_of Tryz.func230 rfl rfl) _ rfl rfl ?_; rintro _ rfl; try simp only [go_sem, contS_seq, simprocAttr]))) <;> (simp only [retK, resD, retL, oneD, simprocAttr, Tryz.results205]; exact ⟨_, rfl, rfl, congrArg bln (by first | rfl | (rw [Bool.eq_iff_iff]; simp only [hasSuffix]; (first | (simp; done) | (simp; omega) | (simp [*]; done) | (simp [*]; omega))) | (simp_all [hasSuffix]; done) | (exfalso; omega))⟩)

def cutPrefix (s p : ByteArray) : ByteArray := if hasPrefix s p then s.extract p.size s.size else s

theorem stringslite_CutPrefix (s p : ByteArray) : Pure Tryz.prog 181 [str s, str p] (fun d => d = .tup [str (cutPrefix s p), bln (hasPrefix s p)]) := by
 refine pure_of_run follows an_zd73u Tryz.func181 rfl ok_zd73u.1 ok_zd73u.2 (by simp [Tryz.ntmps181]) ?_
 rw [run_start]
 simp only [ac_zd73u, go_sem, contS_seq, simprocAttr]
 refine (stringslite_HasPrefix s p).callW (enters_of Tryz.func218 rfl rfl) _ rfl rfl ?_
 rintro d rfl
 simp only [go_sem, contS_seq, simprocAttr]
 refine Gif.mk (fun h => ?_) (fun h => ?_)
 ·have h1 : p.size ≤ s.size := by simp only [hasPrefix, Bool.and_eq_true, decide_eq_true_eq] at h; exact h.1
  have h2 : (p.size ≤ s.size) = True := by simp [h1]
  simp only [go_sem, contS_seq, simprocAttr, h2]
  simp only [retK, resD, retL, oneD, simprocAttr, Tryz.results181]
  exact ⟨_, rfl, rfl, by simp [cutPrefix, h, D.pub, D.pubs]⟩
 ·simp only [retK, resD, retL, oneD, simprocAttr, Tryz.results181]
  exact ⟨_, rfl, rfl, by simp [cutPrefix, h, D.pub, D.pubs]⟩

theorem strings_CutPrefix (s p : ByteArray) : Pure Tryz.prog 146 [str s, str p] (fun d => d = .tup [str (cutPrefix s p), bln (hasPrefix s p)]) := by
 refine pure_of_run follows an_zgqff Tryz.func146 rfl ok_zgqff.1 ok_zgqff.2 (by simp [Tryz.ntmps146]) ?_
 rw [run_start]
 simp only [ac_zgqff, go_sem, contS_seq, simprocAttr]
 refine (stringslite_CutPrefix s p).callW (enters_of Tryz.func181 rfl rfl) _ rfl rfl ?_
 rintro d rfl
 simp only [go_sem, contS_seq, simprocAttr]
 simp only [retK, resD, retL, oneD, simprocAttr, Tryz.results146]
 exact ⟨_, rfl, rfl, rfl⟩

def hostMay (p : ByteArray) : Bool := decide (p = ⟨#[]⟩) || (decide (p.size ≤ 60) && dname (cutPrefix p ⟨#[42, 46]⟩) && (hasPrefix p ⟨#[42, 46]⟩ || decide (cutPrefix p ⟨#[42, 46]⟩ = p)))

set_option maxRecDepth 100000 in
theorem host_May (p : ByteArray) : Pure Tryz.prog 96 [str p] (fun d => d = bln (hostMay p)) := by
 refine pure_of_run follows an_z2osy Tryz.func96 rfl ok_z2osy.1 ok_z2osy.2 (by simp [Tryz.ntmps96]) ?_
 rw [run_start]
 simp only [ac_z2osy, go_sem, contS_seq, simprocAttr]
 (repeat' (first | (refine GifP.mk (fun _ => ?_) (fun _ => ?_)) | (refine Gif.mk (fun _ => ?_) (fun _ => ?_)) | ((first | refine (strings_CutPrefix _ _).callW (enters_of Tryz.func146 rfl rfl) _ rfl rfl ?_ | refine (dns_Name _).callW (enters_of Tryz.func87 rfl rfl) _ rfl rfl ?_); rintro _ rfl; try simp only [go_sem, contS_seq, simprocAttr]))) <;> (simp only [retK, resD, retL, oneD, simprocAttr, Tryz.results96]; exact ⟨_, rfl, rfl, congrArg bln (by first | rfl | (rw [Bool.eq_iff_iff]; simp only [hostMay]; (first | (simp; done) | (simp; omega) | (simp [*]; done) | (simp [*]; omega))) | (simp_all [hostMay]; done) | (exfalso; omega))⟩)

def labValue (s : ByteArray) : Bool := decide (s = ⟨#[]⟩) || label s

theorem label_value (s : ByteArray) : Pure Tryz.prog 130 [str s] (fun d => d = bln (labValue s)) := by
 refine pure_of_run follows an_ziqey Tryz.func130 rfl ok_ziqey.1 ok_ziqey.2 (by simp [Tryz.ntmps130]) ?_
 rw [run_start]
 simp only [ac_ziqey, go_sem, contS_seq, simprocAttr]
 (repeat' (first | (refine GifP.mk (fun _ => ?_) (fun _ => ?_)) | (refine Gif.mk (fun _ => ?_) (fun _ => ?_)) | (refine (dns_Label _).callW (enters_of Tryz.func104 rfl rfl) _ rfl rfl ?_; rintro _ rfl; try simp only [go_sem, contS_seq, simprocAttr]))) <;> (simp only [retK, resD, retL, oneD, simprocAttr, Tryz.results130]; exact ⟨_, rfl, rfl, congrArg bln (by first | rfl | (rw [Bool.eq_iff_iff]; simp only [labValue]; (first | (simp; done) | (simp; omega) | (simp [*]; done) | (simp [*]; omega))) | (simp_all [labValue]; done) | (exfalso; omega))⟩)

theorem bytes_get (s : ByteArray) (i : Nat) : s[i]? = s.data.toList[i]? := by
 by_cases h : i < s.size
 ·rw [getElem?_pos s i h, getElem?_pos s.data.toList i (by rw [size_list]; exact h)]; rfl
 ·rw [getElem?_neg s i h, getElem?_neg s.data.toList i (by rw [size_list]; exact h)]

theorem byte_at {s : ByteArray} {i : Nat} (h : i < s.size) : ∃ b, s[i]? = some b ∧ s.data.toList.drop i = b :: s.data.toList.drop (i + 1) := by
 obtain ⟨b, hb⟩ := at_byte h
 exact ⟨b, hb, drop_at (by rw [← bytes_get]; exact hb)⟩

theorem byte_end {s : ByteArray} {i : Nat} (h : ¬ i < s.size) : s.data.toList.drop i = [] := List.drop_eq_nil_of_le (by rw [size_list]; omega)

theorem i64_succ {i : Nat} (h : i < 1000000000) : IntKind.i64.wrap ((i : Int) + 1) = ((i + 1 : Nat) : Int) := by rw [IntWalk.i64_in _ (by omega)]; omega

def runeAll (p : Int → Bool) (s : ByteArray) : Nat → Nat → Bool
 | 0, _ => true
 | f + 1, pos => if pos < s.size then p (Utf8.decode s pos).1 && runeAll p s f (pos + (Utf8.decode s pos).2) else true

theorem runeAll_end {p : Int → Bool} {s : ByteArray} {f pos : Nat} (h : ¬ pos < s.size) : runeAll p s f pos = true := by cases f <;> simp [runeAll, h]

def pathRune (c : Int) : Bool := decide (33 ≤ c) && decide (c ≤ 126) && !decide (c = 63) && !decide (c = 35)

def pathIs (s : ByteArray) : Bool := runeAll pathRune s s.size 0 && hasPrefix s ⟨#[47]⟩ && decide (s.size ≤ 60)

set_option maxRecDepth 100000 in
theorem path_Is (s : ByteArray) : Pure Tryz.prog 222 [str s] (fun d => d = bln (pathIs s)) := by
 refine pure_of_run follows an_z6j2 Tryz.func222 rfl ok_z6j2.1 ok_z6j2.2 (by simp [Tryz.ntmps222]) ?_
 rw [run_start]
 simp only [ac_z6j2, go_sem, contS_seq, simprocAttr]
 refine loopS (fun k st => ∃ pos : Nat, s.size ≤ pos + k ∧ runeAll pathRune s k pos = runeAll pathRune s s.size 0 ∧
  st = ⟨[(0, str s), (6, .ptr 6 0)], [], [(6, .sit s pos)], .no⟩) s.size _ (Weak.refl _ _) ⟨0, by omega, rfl, rfl⟩ ?_
 rintro k st ⟨pos, hk, hr, rfl⟩
 by_cases hlt : pos < s.size
 ·obtain ⟨k, rfl⟩ : ∃ m, k = m + 1 := ⟨k - 1, by omega⟩
  have hw := width_pos s pos
  simp only [runeAll, hlt, if_true] at hr
  simp only [go_sem, contS_seq, simprocAttr, hlt]
  obtain ⟨c, hc⟩ : ∃ c : Int, ((Utf8.decode s pos).1 : Int) = c := ⟨_, rfl⟩
  rw [hc] at hr ⊢
  have bad : ∀ (h : pathRune c = false), pathIs s = false := fun h => by
   rw [h] at hr
   simp only [Bool.false_and] at hr
   simp [pathIs, ← hr]
  repeat' (first | refine GifP.mk (fun _ => ?_) (fun _ => ?_) | refine Gif.mk (fun _ => ?_) (fun _ => ?_))
  iterate 4
   ·simp only [retK, iterK, resD, retL, oneD, simprocAttr, Tryz.results222]
    exact ⟨_, rfl, rfl, congrArg bln (bad (by simp [pathRune]; omega)).symm⟩
  ·have hg : pathRune c = true := by simp [pathRune]; omega
   rw [hg, Bool.true_and] at hr
   refine ⟨k, _, ?_, ?_, pos + (Utf8.decode s pos).2, ?_, hr, rfl⟩
   ·omega
   ·exact lessA
   ·omega
 ·simp only [go_sem, contS_seq, simprocAttr, hlt]
  rw [runeAll_end hlt] at hr
  have hr' := hr.symm
  clear hr
  refine (strings_HasPrefix s _).callW (enters_of Tryz.func245 rfl rfl) _ rfl rfl ?_
  rintro d rfl
  simp only [go_sem, contS_seq, simprocAttr]
  repeat' (first | refine GifP.mk (fun _ => ?_) (fun _ => ?_) | refine Gif.mk (fun _ => ?_) (fun _ => ?_))
  all_goals
   simp only [retK, iterK, resD, retL, oneD, simprocAttr, Tryz.results222]
   exact ⟨_, rfl, rfl, congrArg bln (by first | rfl | (rw [Bool.eq_iff_iff]; simp only [pathIs, hr']; (first | (simp; done) | (simp; omega) | (simp [*]; done) | (simp [*]; omega))) | (simp_all [pathIs, hr']; done) | (exfalso; omega))⟩


def low (c : Int) : Int := IntKind.u8.wrap (BitVec.ofInt IntKind.u8.bits c ||| BitVec.ofInt IntKind.u8.bits 32).toNat

def foldO (c : Int) : Int := if 65 ≤ c ∧ c ≤ 90 then low c else c

structure FoldW (w : World) (s : ByteArray) (i : Nat) (wr : World) : Prop where
 below : Below w.heap.size w wr
 row : ∃ cs z, wr.heap[w.heap.size]? = some (.cells cs 5 z) ∧ s.size ≤ cs.size ∧ cs.size ≤ z.1 ∧ ∀ (j : Nat) b, s[j]? = some b → cs[j]? = some (.int .u8 (if j < i then foldO b.toNat else b.toNat))

theorem FoldW.next {w : World} {s : ByteArray} {i : Nat} {b : UInt8} (hb : s[i]? = some b) {cs : Array Value} {z : Nat × Nat} (h2 : s.size ≤ cs.size) (h3 : cs.size ≤ z.1)
 (h4 : ∀ (j : Nat) b, s[j]? = some b → cs[j]? = some (.int .u8 (if j < i then foldO b.toNat else b.toNat))) (cs' : Array Value) (W : World) (q1 : W.heap[w.heap.size]? = some (.cells cs' 5 z)) (q2 : cs'.size = cs.size) (q3 : Below w.heap.size w W)
 (q4 : ∀ j, j ≠ i → cs'[j]? = cs[j]?) (q5 : cs'[i]? = some (.int .u8 (foldO b.toNat))) : FoldW w s (i + 1) W :=
 ⟨q3, cs', z, q1, by omega, by omega, fun j b' hj => by
  by_cases e : j = i
  ·subst e
   rw [hb] at hj; cases hj
   rw [if_pos (by omega)]; exact q5
  ·rw [q4 j e, h4 j b' hj]
   by_cases e2 : j < i
   ·rw [if_pos e2, if_pos (by omega)]
   ·rw [if_neg e2, if_neg (by omega)]⟩

def fold (s : ByteArray) : ByteArray := octStr (s.data.toList.map fun b => foldO b.toNat)

set_option maxHeartbeats 1000000 in
theorem run_Fold (s : ByteArray) (hs : s.size ≤ 1000000) (w : World) :
 Calls Tryz.prog 226 #[.string s] w fun e w' => e = .returned (.string (fold s)) ∧ Below w.heap.size w w' := by
 have hconv := fun w' => Lib.run_convert_string_bytes (P := Tryz.prog) w' 9 211 5 s Tryz.underlying9 Tryz.underlying211 Tryz.underlying5
 go_enter Tryz.func226, Tryz.ntmps226
 go_wp2
 go_loopg [10] s.size (fun k c wr => ∃ i : Nat, k = s.size - i ∧ i ≤ s.size ∧ c = .int .i64 i ∧ FoldW w s i wr)
 case atStart =>
  have hcs : s.size ≤ (Lib.bytesCells w 5 s).size := by simp [Lib.bytesCells]
  refine ⟨0, rfl, Nat.zero_le _, rfl, ?_, _, _, Lib.bytesWorld_at_new w _ s, hcs, Nat.le_refl _, fun j b hb => ?_⟩
  ·exact ⟨rfl, rfl, rfl, by rw [Lib.bytesWorld_size]; omega, fun k hk => Lib.bytesWorld_at_old w _ s k hk⟩
  ·rw [if_neg (Nat.not_lt_zero j)]
   have hj : j < s.size := (List.getElem?_eq_some_iff.1 ((bytes_get s j).symm.trans hb)).1
   have hb' : s.data[j]? = some b := by rw [← Array.getElem?_toList, ← bytes_get]; exact hb
   simp only [Lib.bytesCells]
   rw [Array.getElem?_append_left (by simpa using hj), Array.getElem?_map, hb']
   rfl
 case round =>
  obtain ⟨i, hk, hi, rfl, hf⟩ := hrel
  obtain ⟨hbel, cs, z, h1, h2, h3, h4⟩ := hf
  by_cases hlt : i < s.size
  ·obtain ⟨b, hb⟩ := at_byte hlt
   have hcs := h4 i b hb
   rw [if_neg (Nat.lt_irrefl i)] at hcs
   have hcell : wr.cell? ⟨w.heap.size, i, none⟩ = some (.int .u8 b.toNat) := by simp [World.cell?, h1, hcs]
   have hfz : wr.frozen? ⟨w.heap.size, i, none⟩ = false := by
    simp [World.frozen?, h1]; omega
   have hlt' : (i : Int) < (s.size : Int) := by omega
   go_wp2
   ·have hset : (wr.setCell ⟨w.heap.size, i, none⟩ (.int .u8 (bits .or .u8 (b.toNat : Int) 32))).heap[w.heap.size]? = some (.cells (cs.setIfInBounds i (.int .u8 (bits .or .u8 (b.toNat : Int) 32))) 5 z) := by
     simp only [World.setCell, Array.getElem?_modify, if_true, h1, Option.map_some]
     rfl
    go_roundg (s.size - (i + 1))
    case measure => omega
    case rel =>
     refine ⟨i + 1, rfl, by omega, by simp, FoldW.next hb h2 h3 h4 _ _ hset (by simp) (hbel.setCell (Nat.le_refl _) _) (fun j hj => by simp [Array.getElem?_setIfInBounds, Ne.symm hj]) ?_⟩
     have hic : i < cs.size := by omega
     rw [Array.getElem?_setIfInBounds, if_pos rfl, if_pos hic]
     rw [foldO, if_pos (by omega)]
     rfl
   ·go_roundg (s.size - (i + 1))
    case measure => omega
    case rel => exact ⟨i + 1, rfl, by omega, by simp, FoldW.next hb h2 h3 h4 _ _ h1 rfl hbel (fun _ _ => rfl) (by rw [hcs, foldO, if_neg (by omega)])⟩
   ·go_roundg (s.size - (i + 1))
    case measure => omega
    case rel => exact ⟨i + 1, rfl, by omega, by simp, FoldW.next hb h2 h3 h4 _ _ h1 rfl hbel (fun _ _ => rfl) (by rw [hcs, foldO, if_neg (by omega)])⟩
  ·have hi2 : i = s.size := by omega
   subst hi2
   have hload := run_loadCells_list (P := Tryz.prog) (w := wr) (⟨w.heap.size, 0, none⟩ : Addr) ((s.data.toList.map fun b => foldO b.toNat).map (Value.int .u8)) (fun j v hj => by
    rw [List.getElem?_map, List.getElem?_map] at hj
    cases hb : s.data.toList[j]? with
    | none => rw [hb] at hj; cases hj
    | some b =>
      rw [hb] at hj
      cases hj
      have hjs : j < s.size := (List.getElem?_eq_some_iff.1 hb).1
      have := h4 j b (by rw [bytes_get]; exact hb)
      rw [if_pos hjs] at this
      rw [add_off, Nat.zero_add]
      simp [World.cell?, h1, this])
   have hlen : ((s.data.toList.map fun b => foldO b.toNat).map (Value.int .u8)).length = s.size := by simp [size_list]
   rw [hlen] at hload
   have hback := run_bytesToString wr ⟨w.heap.size, 0, none⟩ s.size (grownCap w s.size 0 5) _ hload
   have hconv2 := (run_convert_bytes_string (P := Tryz.prog) wr 211 9 5 (some ⟨w.heap.size, 0, none⟩) s.size (grownCap w s.size 0 5) Tryz.underlying211 Tryz.underlying5 Tryz.underlying9).trans hback
   have hlt' : ¬ (s.size : Int) < (s.size : Int) := by omega
   go_wp2
   go_ret
   exact ⟨rfl, hbel⟩

theorem dns_Fold (s : ByteArray) (hs : s.size ≤ 1000000) : Pure Tryz.prog 226 [str s] (fun d => d = str (fold s)) := by
 intro Fz w us hlt hr
 simp only [Reps] at hr
 obtain ⟨x, r, rfl, hx, rfl⟩ := hr
 obtain rfl := rep_raw_inv hx
 refine (run_Fold s hs w).mono ?_
 rintro e w' ⟨rfl, hb⟩
 exact ⟨_, _, Fz, rfl, rfl, rfl, hb, fun b o hf => ⟨hf, hb.cell (hlt b o hf)⟩, fun b o hf => Nat.lt_of_lt_of_le (hlt b o hf) hb.size, fun _ _ h _ => h, by simp only [Rep]; exact .raw _ rfl⟩


theorem pathIs_size {s : ByteArray} (h : pathIs s = true) : s.size ≤ 1000000 := by
 simp only [pathIs, Bool.and_eq_true, decide_eq_true_eq] at h
 omega

def pathAbove (s : ByteArray) : Bool := pathIs s && (decide (s = ⟨#[47]⟩) || !hasSuffix s ⟨#[47]⟩)

theorem path_above (s : ByteArray) : Pure Tryz.prog 223 [str s] (fun d => d = bln (pathAbove s)) := by
 refine pure_of_run follows an_zgeto Tryz.func223 rfl ok_zgeto.1 ok_zgeto.2 (by simp [Tryz.ntmps223]) ?_
 rw [run_start]
 simp only [ac_zgeto, go_sem, contS_seq, simprocAttr]
 (repeat' (first | (refine GifP.mk (fun _ => ?_) (fun _ => ?_)) | (refine Gif.mk (fun _ => ?_) (fun _ => ?_)) | ((first | refine (path_Is _).callW (enters_of Tryz.func222 rfl rfl) _ rfl rfl ?_ | refine (strings_HasSuffix _ _ (pathIs_size (by assumption))).callW (enters_of Tryz.func205 rfl rfl) _ rfl rfl ?_); rintro _ rfl; try simp only [go_sem, contS_seq, simprocAttr]))) <;> (simp only [retK, resD, retL, oneD, simprocAttr, Tryz.results223]; exact ⟨_, rfl, rfl, congrArg bln (by first | rfl | (rw [Bool.eq_iff_iff]; simp only [pathAbove]; (first | (simp; done) | (simp; omega) | (simp [*]; done) | (simp [*]; omega))) | (simp_all [pathAbove]; done) | (exfalso; omega))⟩)

def pathMay (k : Int) (v : ByteArray) : Bool := (decide (k = 1) && pathIs v) || (decide (k = 2) && pathAbove v)

theorem path_May (k : Int) (v : ByteArray) : Pure Tryz.prog 188 [.agg [int k, str v]] (fun d => d = bln (pathMay k v)) := by
 refine pure_of_run follows an_z2uwa Tryz.func188 rfl ok_z2uwa.1 ok_z2uwa.2 (by simp [Tryz.ntmps188]) ?_
 rw [run_start]
 simp only [ac_z2uwa, go_sem, contS_seq, simprocAttr]
 (repeat' (first | (refine GifP.mk (fun _ => ?_) (fun _ => ?_)) | (refine Gif.mk (fun _ => ?_) (fun _ => ?_)) | ((first | refine (path_Is _).callW (enters_of Tryz.func222 rfl rfl) _ rfl rfl ?_ | refine (path_above _).callW (enters_of Tryz.func223 rfl rfl) _ rfl rfl ?_); rintro _ rfl; try simp only [go_sem, contS_seq, simprocAttr]))) <;> (simp only [retK, resD, retL, oneD, simprocAttr, Tryz.results188]; exact ⟨_, rfl, rfl, congrArg bln (by first | rfl | (rw [Bool.eq_iff_iff]; simp only [pathMay]; (first | (simp; done) | (simp; omega) | (simp [*]; done) | (simp [*]; omega))) | (simp_all [pathMay]; done) | (exfalso; omega))⟩)

def methodRune (c : Int) : Bool := decide (65 ≤ c) && decide (c ≤ 90)

theorem rule_Method_1 (c : Int) : Pure Tryz.prog 224 [i32 c] (fun d => d = bln (!methodRune c)) := by
 refine pure_of_run follows an_zluy0 Tryz.func224 rfl ok_zluy0.1 ok_zluy0.2 (by simp [Tryz.ntmps224]) ?_
 rw [run_start]
 simp only [ac_zluy0, go_sem, contS_seq, simprocAttr]
 (repeat' (first | (refine GifP.mk (fun _ => ?_) (fun _ => ?_)) | (refine Gif.mk (fun _ => ?_) (fun _ => ?_)))) <;> (simp only [retK, resD, retL, oneD, simprocAttr, Tryz.results224]; exact ⟨_, rfl, rfl, congrArg bln (by first | rfl | (rw [Bool.eq_iff_iff]; simp only [methodRune]; (first | (simp; done) | (simp; omega) | (simp [*]; done) | (simp [*]; omega))) | (simp_all [methodRune]; done) | (exfalso; omega))⟩)

def method (s : ByteArray) : Bool := !decide (s = ⟨#[]⟩) && decide (s.size ≤ 10) && decide (runeIdx (fun c => !methodRune c) s s.size 0 < 0)

theorem rule_Method (s : ByteArray) : Pure Tryz.prog 189 [str s] (fun d => d = bln (method s)) := by
 refine pure_of_run follows an_zjt8m Tryz.func189 rfl ok_zjt8m.1 ok_zjt8m.2 (by simp [Tryz.ntmps189]) ?_
 rw [run_start]
 simp only [ac_zjt8m, go_sem, contS_seq, simprocAttr]
 (repeat' (first | (refine GifP.mk (fun _ => ?_) (fun _ => ?_)) | (refine Gif.mk (fun _ => ?_) (fun _ => ?_)) | (refine (strings_IndexFunc _ _ (enters_of Tryz.func224 rfl rfl) rule_Method_1 _).callW (enters_of Tryz.func158 rfl rfl) _ rfl rfl ?_; rintro _ rfl; try simp only [go_sem, contS_seq, simprocAttr]))) <;> (simp only [retK, resD, retL, oneD, simprocAttr, Tryz.results189]; exact ⟨_, rfl, rfl, congrArg bln (by first | rfl | (rw [Bool.eq_iff_iff]; simp only [method]; (first | (simp; done) | (simp; omega) | (simp [*]; done) | (simp [*]; omega))) | (simp_all [method]; done) | (exfalso; omega))⟩)

def pairMay (p : APair) : Bool := !decide (p.name = ⟨#[]⟩) && decide (p.name.size ≤ 40) && decide (p.val.size ≤ 40)

def queryMay (l : List APair) : Bool := l.all pairMay && decide (l.length ≤ 20)

set_option maxRecDepth 100000 in
theorem query_May (l : List APair) (hl : l.length ≤ 1000000) : Pure Tryz.prog 193 [.pd (.slice (rows APair.pd l))] (fun d => d = bln (queryMay l)) := by
 refine pure_of_run follows an_zr0tf Tryz.func193 rfl ok_zr0tf.1 ok_zr0tf.2 (by simp [Tryz.ntmps193]) ?_
 rw [run_start]
 simp only [ac_zr0tf, go_sem, contS_seq, simprocAttr, rows_len]
 refine loopS (fun k st => ∃ i : Nat, k = l.length - i ∧ i ≤ l.length ∧ (l.drop i).all pairMay = l.all pairMay ∧
  st = ⟨[(0, .pd (.slice (rows APair.pd l))), (5, .pd (.slice (rows APair.pd l))), (6, int l.length), (7, int i)], [], [], .no⟩) l.length _ (Weak.refl _ _) ⟨0, rfl, Nat.zero_le _, rfl, rfl⟩ ?_
 rintro k st ⟨i, rfl, hi, hr, rfl⟩
 by_cases hlt : i < l.length
 ·obtain ⟨x, hx⟩ := at_lt hlt
  have hlt' : ((i : Int) < (l.length : Int)) = True := by simp; omega
  rw [drop_at hx, List.all_cons] at hr
  have bad : pairMay x = false → queryMay l = false := fun h => by
   rw [h, Bool.false_and] at hr
   simp [queryMay, ← hr]
  simp only [go_sem, contS_seq, simprocAttr, hlt', rows_get hx, i64_succ (show i < 1000000000 by omega)]
  repeat' (first | refine GifP.mk (fun _ => ?_) (fun _ => ?_) | refine Gif.mk (fun _ => ?_) (fun _ => ?_))
  iterate 3
   ·simp only [retK, iterK, resD, retL, oneD, simprocAttr, Tryz.results193]
    exact ⟨_, rfl, rfl, congrArg bln (bad (by simp [pairMay, *]; try omega)).symm⟩
  ·have hg : pairMay x = true := by simp [pairMay, *]; omega
   rw [hg, Bool.true_and] at hr
   refine ⟨l.length - (i + 1), _, ?_, ?_, i + 1, rfl, ?_, hr, rfl⟩
   ·omega
   ·exact lessA
   ·omega
 ·have hlt' : ((i : Int) < (l.length : Int)) = False := by simp; omega
  rw [List.drop_eq_nil_of_le (by omega)] at hr
  have hr' := hr.symm
  rw [List.all_nil] at hr'
  simp only [go_sem, contS_seq, simprocAttr, rows_len, hlt']
  repeat' (first | refine GifP.mk (fun _ => ?_) (fun _ => ?_) | refine Gif.mk (fun _ => ?_) (fun _ => ?_))
  all_goals
   simp only [retK, iterK, resD, retL, oneD, simprocAttr, Tryz.results193]
   exact ⟨_, rfl, rfl, congrArg bln (by first | rfl | (rw [Bool.eq_iff_iff]; simp only [queryMay, hr']; (first | (simp; done) | (simp; omega) | (simp [*]; done) | (simp [*]; omega))) | (simp_all [queryMay, hr']; done) | (exfalso; omega))⟩

def marks : ByteArray := ⟨#[33, 35, 36, 37, 38, 39, 42, 43, 45, 46, 94, 95, 96, 124, 126]⟩

def tokenOct (b : UInt8) : Bool := (decide (97 ≤ low b.toNat) && decide (low b.toNat ≤ 122)) || (decide (48 ≤ b.toNat) && decide (b.toNat ≤ 57)) || decide (0 ≤ Lib.indexByte marks.data.toList b)

def token (s : ByteArray) : Bool := s.data.toList.all tokenOct && !decide (s = ⟨#[]⟩) && decide (s.size ≤ 40)

theorem toNat_u8 (b : UInt8) : ((b.toNat : Int)).toNat.toUInt8 = b := by simp

theorem pairs_Token (s : ByteArray) (hs : s.size ≤ 1000000) : Pure Tryz.prog 186 [str s] (fun d => d = bln (token s)) := by
 refine pure_of_run follows an_zwtth Tryz.func186 rfl ok_zwtth.1 ok_zwtth.2 (by simp [Tryz.ntmps186]) ?_
 rw [run_start]
 simp only [ac_zwtth, go_sem, contS_seq, simprocAttr, rows_len]
 refine loopS (fun k st => ∃ i : Nat, k = s.size - i ∧ i ≤ s.size ∧ (s.data.toList.drop i).all tokenOct = s.data.toList.all tokenOct ∧
  st = ⟨[(0, str s), (6, int s.size), (7, int i)], [], [], .no⟩) s.size _ (Weak.refl _ _) ⟨0, rfl, Nat.zero_le _, rfl, rfl⟩ ?_
 rintro k st ⟨i, rfl, hi, hr, rfl⟩
 by_cases hlt : i < s.size
 ·obtain ⟨b, hb, hd⟩ := byte_at hlt
  have hlt' : ((i : Int) < (s.size : Int)) = True := by simp; omega
  rw [hd, List.all_cons] at hr
  have bad : tokenOct b = false → token s = false := fun h => by
   rw [h, Bool.false_and] at hr
   simp only [token, ← hr, Bool.false_and]
  have hlow : IntKind.u8.wrap (BitVec.ofInt IntKind.u8.bits (b.toNat : Int) ||| BitVec.ofInt IntKind.u8.bits 32).toNat = low b.toNat := rfl
  have hw := i64_succ (show i < 1000000000 by omega)
  simp only [go_sem, contS_seq, simprocAttr, hlt', hb, hw, ↓hlow]
  have good : tokenOct b = true → ∀ st, Weak Tryz.prog st ⟨[(0, str s), (6, int s.size), (7, int (i + 1 : Nat))], [], [], .no⟩ → Round Tryz.prog (fun k st => ∃ i : Nat, k = s.size - i ∧ i ≤ s.size ∧ (s.data.toList.drop i).all tokenOct = s.data.toList.all tokenOct ∧
   st = ⟨[(0, str s), (6, int s.size), (7, int i)], [], [], .no⟩) (s.size - i) st := fun h st hw => by
   rw [h, Bool.true_and] at hr
   exact ⟨s.size - (i + 1), _, by omega, hw, i + 1, rfl, by omega, hr, rfl⟩
  repeat' (first | refine GifP.mk (fun _ => ?_) (fun _ => ?_) | refine Gif.mk (fun _ => ?_) (fun _ => ?_) | (refine (strings_IndexByte _ _).callW (enters_of Tryz.func220 rfl rfl) _ rfl rfl ?_; rintro _ rfl; rw [toNat_u8]; simp only [go_sem, contS_seq, simprocAttr, hw]))
  all_goals first
   | (refine good (by simp [tokenOct, marks, *]; try omega) _ ?_; exact lessA)
   | (simp only [retK, resD, retL, oneD, simprocAttr, Tryz.results186]
      exact ⟨_, rfl, rfl, congrArg bln (bad (by simp [tokenOct, marks, *]; try omega)).symm⟩)
 ·have hlt' : ((i : Int) < (s.size : Int)) = False := by simp; omega
  rw [byte_end hlt] at hr
  have hr' := hr.symm
  rw [List.all_nil] at hr'
  simp only [go_sem, contS_seq, simprocAttr, rows_len, hlt']
  repeat' (first | refine GifP.mk (fun _ => ?_) (fun _ => ?_) | refine Gif.mk (fun _ => ?_) (fun _ => ?_))
  all_goals
   simp only [retK, resD, retL, oneD, simprocAttr, Tryz.results186]
   exact ⟨_, rfl, rfl, congrArg bln (by first | rfl | (rw [Bool.eq_iff_iff]; simp only [token, hr']; (first | (simp; done) | (simp; omega) | (simp [*]; done) | (simp [*]; omega))) | (simp_all [token, hr']; done) | (exfalso; omega))⟩

def trimL (c : Int) : Nat → ByteArray → ByteArray
 | 0, s => s
 | f + 1, s => match s[0]? with
   | some b => if (b.toNat : Int) = c then trimL c f (s.extract 1 s.size) else s
   | none => s

def trimR (c : Int) : Nat → ByteArray → ByteArray
 | 0, s => s
 | f + 1, s => match s[s.size - 1]? with
   | some b => if (b.toNat : Int) = c then trimR c f (s.extract 0 (s.size - 1)) else s
   | none => s

theorem byte_none {s : ByteArray} {i : Nat} (h : ¬ i < s.size) : s[i]? = none := by rw [bytes_get]; exact List.getElem?_eq_none (by rw [size_list]; omega)

theorem strings_trimLeftByte (s : ByteArray) (c : Int) : Pure Tryz.prog 238 [str s, u8 c] (fun d => d = str (trimL c s.size s)) := by
 refine pure_of_run follows an_zu0fc Tryz.func238 rfl ok_zu0fc.1 ok_zu0fc.2 (by simp [Tryz.ntmps238]) ?_
 rw [run_start]
 simp only [ac_zu0fc, go_sem, contS_seq, simprocAttr]
 refine loopS (fun k st => ∃ r : ByteArray, r.size ≤ k ∧ trimL c k r = trimL c s.size s ∧
  st = ⟨[(0, str r), (1, u8 c)], [], [], .no⟩) s.size _ (Weak.refl _ _) ⟨s, Nat.le_refl _, rfl, rfl⟩ ?_
 rintro k st ⟨r, hk, hr, rfl⟩
 by_cases hlt : 0 < r.size
 ·obtain ⟨b, hb⟩ := at_byte hlt
  obtain ⟨k, rfl⟩ : ∃ m, k = m + 1 := ⟨k - 1, by omega⟩
  have h1 : ((0 : Int) < (r.size : Int)) = True := eq_true (by omega)
  have h2 : (1 ≤ r.size) = True := by simp; omega
  have h3 : (r.extract 1 r.size).size = r.size - 1 := by simp [ByteArray.size_extract]
  simp only [trimL, hb] at hr
  simp only [go_sem, contS_seq, simprocAttr, h1, hb, h2]
  refine GifP.mk (fun h => ?_) (fun h => ?_)
  ·rw [if_pos h] at hr
   refine ⟨k, _, ?_, ?_, r.extract 1 r.size, ?_, hr, rfl⟩
   ·omega
   ·exact lessA
   ·omega
  ·rw [if_neg h] at hr
   simp only [retK, resD, retL, oneD, simprocAttr, Tryz.results238]
   exact ⟨_, rfl, rfl, congrArg (fun x => str x) hr⟩
 ·have h1 : ((0 : Int) < (r.size : Int)) = False := eq_false (by omega)
  have hn : trimL c k r = r := by
   cases k with
   | zero => rfl
   | succ k => simp only [trimL, byte_none hlt]
  rw [hn] at hr
  simp only [go_sem, contS_seq, simprocAttr, h1]
  simp only [retK, resD, retL, oneD, simprocAttr, Tryz.results238]
  exact ⟨_, rfl, rfl, congrArg (fun x => str x) hr⟩

theorem strings_trimRightByte (s : ByteArray) (c : Int) (hs : s.size ≤ 1000000) : Pure Tryz.prog 239 [str s, u8 c] (fun d => d = str (trimR c s.size s)) := by
 refine pure_of_run follows an_zdteh Tryz.func239 rfl ok_zdteh.1 ok_zdteh.2 (by simp [Tryz.ntmps239]) ?_
 rw [run_start]
 simp only [ac_zdteh, go_sem, contS_seq, simprocAttr]
 refine loopS (fun k st => ∃ r : ByteArray, r.size ≤ k ∧ r.size ≤ 1000000 ∧ trimR c k r = trimR c s.size s ∧
  st = ⟨[(0, str r), (1, u8 c)], [], [], .no⟩) s.size _ (Weak.refl _ _) ⟨s, Nat.le_refl _, hs, rfl, rfl⟩ ?_
 rintro k st ⟨r, hk, hrs, hr, rfl⟩
 by_cases hlt : 0 < r.size
 ·obtain ⟨b, hb⟩ := at_byte (show r.size - 1 < r.size by omega)
  obtain ⟨k, rfl⟩ : ∃ m, k = m + 1 := ⟨k - 1, by omega⟩
  have h1 : ((0 : Int) < (r.size : Int)) = True := eq_true (by omega)
  have h2 : (r.size - 1 ≤ r.size) = True := by simp
  have h3 : (r.extract 0 (r.size - 1)).size = r.size - 1 := by simp [ByteArray.size_extract]
  have hw : IntKind.i64.wrap ((r.size : Int) - 1) = ((r.size - 1 : Nat) : Int) := by rw [IntWalk.i64_in _ (by omega)]; omega
  simp only [trimR, hb] at hr
  simp only [go_sem, contS_seq, simprocAttr, h1, hw, hb, h2]
  refine GifP.mk (fun h => ?_) (fun h => ?_)
  ·rw [if_pos h] at hr
   refine ⟨k, _, ?_, ?_, r.extract 0 (r.size - 1), ?_, ?_, hr, rfl⟩
   ·omega
   ·exact lessA
   ·omega
   ·omega
  ·rw [if_neg h] at hr
   simp only [retK, resD, retL, oneD, simprocAttr, Tryz.results239]
   exact ⟨_, rfl, rfl, congrArg (fun x => str x) hr⟩
 ·have h1 : ((0 : Int) < (r.size : Int)) = False := eq_false (by omega)
  have hn : trimR c k r = r := by
   cases k with
   | zero => rfl
   | succ k => simp only [trimR, byte_none (show ¬ r.size - 1 < r.size by omega)]
  rw [hn] at hr
  simp only [go_sem, contS_seq, simprocAttr, h1]
  simp only [retK, resD, retL, oneD, simprocAttr, Tryz.results239]
  exact ⟨_, rfl, rfl, congrArg (fun x => str x) hr⟩

def trim (s : ByteArray) : ByteArray := trimL 32 (trimR 32 s.size s).size (trimR 32 s.size s)

theorem strings_Trim (s : ByteArray) (hs : s.size ≤ 1000000) : Pure Tryz.prog 221 [str s, str ⟨#[32]⟩] (fun d => d = str (trim s)) := by
 refine pure_of_run follows an_zmas7 Tryz.func221 rfl ok_zmas7.1 ok_zmas7.2 (by simp [Tryz.ntmps221]) ?_
 rw [run_start]
 have h1 : (ByteArray.mk #[32]).size = 1 := rfl
 have h2 : (ByteArray.mk #[32])[0]? = some 32 := rfl
 have h3 : ((1 : Nat) : Int) = 1 := rfl
 have h4 : (ByteArray.mk #[32] = ByteArray.mk #[]) = False := by simp
 have h5 : ((UInt8.toNat 32 : Nat) : Int) = 32 := rfl
 simp only [ac_zmas7, go_sem, contS_seq, simprocAttr, go_sem, h1, h2, h3, h4, h5]
 refine GifP.mk (fun he => ?_) (fun he => ?_)
 ·simp only [retK, resD, retL, oneD, simprocAttr, Tryz.results221]
  refine ⟨_, rfl, rfl, congrArg (fun x => str x) ?_⟩
  subst he; rfl
 ·refine (strings_trimRightByte s 32 hs).callX (enters_of Tryz.func239 rfl rfl) _ rfl rfl ?_
  rintro d rfl
  simp only [go_sem, contS_seq, simprocAttr, go_sem, h1, h2, h5]
  refine (strings_trimLeftByte _ 32).callX (enters_of Tryz.func238 rfl rfl) _ rfl rfl ?_
  rintro d rfl
  simp only [go_sem, contS_seq, simprocAttr, go_sem]
  simp only [retK, resD, retL, oneD, simprocAttr, Tryz.results221]
  exact ⟨_, rfl, rfl, rfl⟩


abbrev idr (bs : List (Nat × List D)) : List (Nat × Nat) := bs.map fun p => (p.1, p.1)
def capD (caps : List (Nat × Nat)) : List D := caps.map fun c => .ptr c.1 c.2

def dnd : List Nat → Bool
 | [] => true
 | a :: l => !l.contains a && dnd l

structure Cl (bs : List (Nat × List D)) (caps : List (Nat × Nat)) : Prop where
 ok : renOK (idr bs) = true
 see : seeBs (idr bs) bs (idr bs) = bs
 cap : D.sees (idr bs) (capD caps) = capD caps
 capf : seeCaps (idr bs) caps = some caps
 nd : dnd (bs.map (·.1)) = true

theorem Cl.of {bs : List (Nat × List D)} {caps : List (Nat × Nat)} (h1 : renOK (idr bs) = true) (h2 : seeBs (idr bs) bs (idr bs) = bs) (h3 : D.sees (idr bs) (capD caps) = capD caps) (h4 : seeCaps (idr bs) caps = some caps) (h5 : dnd (bs.map (·.1)) = true) : Cl bs caps := ⟨h1, h2, h3, h4, h5⟩

theorem Cl.args {bs : List (Nat × List D)} {caps : List (Nat × Nat)} (h : Cl bs caps) {d : D} (hd : D.see (idr bs) d = d) : D.sees (idr bs) (d :: capD caps) = d :: capD caps := by
 rw [D.sees, hd, h.cap]

theorem Cl.two {bs : List (Nat × List D)} {caps : List (Nat × Nat)} (h : Cl bs caps) {x : PD} {g : FuncId} : D.sees (idr bs) [.pd x, .fn g caps] = [.pd x, .fn g caps] := by
 simp only [D.sees, D.see, h.capf]

theorem lessL_of {α : Type} : ∀ {r l : List (Nat × α)}, (∀ p ∈ r, lk l p.1 = some p.2) → lessL r l
 | [], _, _ => trivial
 | _ :: _, _, h => ⟨h _ (List.mem_cons_self ..), lessL_of fun p hp => h p (List.mem_cons_of_mem _ hp)⟩

theorem lk_mem_nd {α : Type} : ∀ {l : List (Nat × α)}, dnd (l.map (·.1)) = true → ∀ p ∈ l, lk l p.1 = some p.2
 | [], _, _, h => by cases h
 | (m, d) :: l, hn, p, h => by
   simp only [List.map_cons, dnd, Bool.and_eq_true, Bool.not_eq_true'] at hn
   rcases List.mem_cons.1 h with rfl | h
   ·simp [lk]
   ·have hne : p.1 ≠ m := fun e => by
     have : (l.map (·.1)).contains m = true := by rw [List.contains_iff_mem]; exact List.mem_map.2 ⟨p, h, e⟩
     rw [hn.1] at this; cases this
    simp only [lk, if_neg hne]
    exact lk_mem_nd hn.2 p h

theorem lessL_refl {α : Type} {l : List (Nat × α)} (h : dnd (l.map (·.1)) = true) : lessL l l := lessL_of (lk_mem_nd h)

theorem Mem.toNfn {P : Program} {w0 : World} {Fz0 : Nat → Nat → Prop} {S : Nat → Prop} {N : Nat} {bs : List (Nat × List D)} {ms : List (Nat × MO)} {g : Gh} {w : World} (m : Mem (.fn P w0 Fz0 S N) bs ms g w) (N' : Nat) : Mem (.fn P w0 Fz0 S N') bs ms g w where
 os := m.os
 tape := m.tape
 output := m.output
 hsz := m.hsz
 old := m.old
 keep := m.keep
 newfz := m.newfz
 fzlt := m.fzlt
 bxs := m.bxs
 mps := m.mps
 bxok := m.bxok
 bxinj := m.bxinj
 tks := m.tks
 tkinj := m.tkinj
 bxtk := m.bxtk
 dfs := m.dfs
 dnd := m.dnd
 bxdf := m.bxdf
 bxdm := m.bxdm

theorem PureB.pure {P : Program} {f : FuncId} {args : List D} {R : D → Prop} (h : PureB P f args [] R) : Pure P f args R := by
 intro Fz w vs hlt hr
 exact h (gh0 Fz) w vs rfl rfl (fun N => (init_SR (P := P) (N := args.length) (Nat.le_refl _) hlt hr).mem.toNfn N) hr

theorem Pure.pureB {P : Program} {f : FuncId} {args : List D} {R : D → Prop} (h : Pure P f args R) (hc : D.closeds args = true) : PureB P f args [] R := by
 intro g0 w vs _ _ hm hr
 exact h g0.Fz w vs (hm 0).fzlt (Reps.close (g := g0) (g' := gh0 g0.Fz) (Ex.refl _ _) hc hr)

def lidx {α : Type} (p : α → Bool) : List α → Nat → Int
 | [], _ => -1
 | x :: l, i => if p x = true then (i : Int) else lidx p l (i + 1)

theorem lidx_any' {α : Type} (p : α → Bool) : ∀ (l : List α) (i : Nat), decide (0 ≤ lidx p l i) = l.any p
 | [], _ => by simp [lidx]
 | x :: l, i => by
   rw [lidx, List.any_cons]
   by_cases h : p x = true
   ·rw [if_pos h, h]; simp
   ·rw [if_neg h, lidx_any' p l (i + 1)]; simp at h; simp [h]

theorem lidx_any {α : Type} (p : α → Bool) (l : List α) : decide (0 ≤ lidx p l 0) = l.any p := lidx_any' p l 0

def every {α : Type} (p : α → Bool) (l : List α) (n : Int) : Bool := decide ((l.length : Int) ≤ n) && l.all p

def twiceFrom {α : Type} (q : α → α → Bool) (l : List α) : Nat → Nat → Bool
 | 0, _ => false
 | k + 1, i => (match l[i]? with
   | some x => (l.take i).any fun y => q x y
   | none => false) || twiceFrom q l k (i + 1)

def twice {α : Type} (q : α → α → Bool) (l : List α) : Bool := twiceFrom q l l.length 0

abbrev ASide.d (s : ASide) : D := .agg [int s.kind, str s.space, str s.name]
abbrev APair.d (p : APair) : D := .agg [str p.name, str p.val]
abbrev ANeed.d (n : ANeed) : D := .agg [int n.kind, str n.name, .pd (.slice (strs n.vals))]
abbrev AListener.d (l : AListener) : D := .agg [str l.name, int l.port, bln l.tls, str l.host, int l.cert.kind, str l.cert.space, str l.cert.name, int l.from_, .pd (.slice (rows ANeed.pd l.needs))]
abbrev AParent.d (p : AParent) : D := .agg [str p.space, str p.name, str p.section_, int p.port]
abbrev AMatch.d (m : AMatch) : D := .agg [int m.pkind, str m.pval, str m.method, .pd (.slice (rows APair.pd m.head)), .pd (.slice (rows APair.pd m.query))]
abbrev AFilter.d (f : AFilter) : D := .agg [int f.kind, str f.name, str f.val, str f.host, int f.port, str f.path, bln f.whole, int f.code]
abbrev ARule.d (r : ARule) : D := .agg [.pd (.slice (rows AMatch.pd r.matches_)), .pd (.slice (rows AFilter.pd r.filters)), .pd (.slice (rows ABackend.pd r.backends))]

abbrev ASide.ds (s : ASide) : List D := [int s.kind, str s.space, str s.name]
abbrev AListener.ds (l : AListener) : List D := [str l.name, int l.port, bln l.tls, str l.host, int l.cert.kind, str l.cert.space, str l.cert.name, int l.from_, .pd (.slice (rows ANeed.pd l.needs))]
abbrev AParent.ds (p : AParent) : List D := [str p.space, str p.name, str p.section_, int p.port]
def eqf {α : Type} (q : α → α → Bool) : List α → List α → Bool
 | [], [] => true
 | x :: l, y :: m => q x y && eqf q l m
 | _, _ => false

theorem eqf_len {α : Type} (q : α → α → Bool) : ∀ {l m : List α}, l.length ≠ m.length → eqf q l m = false
 | [], [], h => absurd rfl h
 | [], _ :: _, _ => rfl
 | _ :: _, [], _ => rfl
 | x :: l, y :: m, h => by
   rw [eqf, eqf_len q (by simpa using h), Bool.and_false]

theorem eq_int (x y : Int) : decide (x = y) = decide (x = y) := rfl
theorem eq_string (x y : ByteArray) : decide (x = y) = decide (x = y) := rfl
theorem eq_Pair (x y : APair) : (decide (x.name = y.name) && decide (x.val = y.val)) = decide (x = y) := by
 cases x; cases y; rw [Bool.eq_iff_iff]; simp
theorem eq_Side (x y : ASide) : (decide (x.kind = y.kind) && (decide (x.space = y.space) && decide (x.name = y.name))) = decide (x = y) := by
 cases x; cases y; rw [Bool.eq_iff_iff]; simp
theorem eq_Parent (x y : AParent) : (decide (x.space = y.space) && (decide (x.name = y.name) && (decide (x.section_ = y.section_) && decide (x.port = y.port)))) = decide (x = y) := by
 cases x; cases y; rw [Bool.eq_iff_iff]; simp
theorem eq_Ref (x y : ARef) : (decide (x.kind = y.kind) && (decide (x.space = y.space) && decide (x.name = y.name))) = decide (x = y) := by
 cases x; cases y; rw [Bool.eq_iff_iff]; simp
theorem eq_Backend (x y : ABackend) : (decide (x.ref.kind = y.ref.kind) && (decide (x.ref.space = y.ref.space) && (decide (x.ref.name = y.ref.name) && (decide (x.port = y.port) && decide (x.weight = y.weight))))) = decide (x = y) := by
 obtain ⟨⟨a, b, c⟩, d, e⟩ := x; obtain ⟨⟨a', b', c'⟩, d', e'⟩ := y; rw [Bool.eq_iff_iff]; simp [and_assoc]
theorem eq_Filter (x y : AFilter) : (decide (x.kind = y.kind) && (decide (x.name = y.name) && (decide (x.val = y.val) && (decide (x.host = y.host) && (decide (x.port = y.port) && (decide (x.path = y.path) && (x.whole == y.whole && decide (x.code = y.code)))))))) = decide (x = y) := by
 cases x; cases y; rw [Bool.eq_iff_iff]; simp

end Go.Proofs.YtcnhcamimcpinaaGreatDoor



namespace Go.Proofs.YtcnhcamimcpinaaGreatDoor
open Go

def ac_z3l61 : AC := (sr [oo 4 (.mv (cq false))] [0,1] (sr [mq 5 0,mq 6 1,oo 7 (.call 80 [tp 5,tp 6]),oo 8 (.bin .geq (tp 7) (ci 0)),mq 4 8] [4] .ret))
def an_z3l61 : Ann := ann (List.range 2) ac_z3l61
theorem ok_z3l61 : okd Tryz.prog an_z3l61 ac_z3l61 Tryz.f46 := ⟨by kernel_rfl, by kernel_rfl⟩

def ac_z576z : AC := (sr [oo 4 (.mv (ci 0))] [0,1] (.seq (sr [mq 6 0,oo 7 (.len (tp 6) false),oo 8 (.mv (ci 0))] [0,1,7,8] (.block 0 (.loop (sr [oo 9 (.bin .lss (tp 8) (tp 7))] [0,1,7,8,9] (.seq (.cond (tp 9) .skip (.exit 0)) (.seq (.block 1 (sr [mq 10 8,mq 5 10] [0,1,5,7,8] (sr [mq 11 1,mq 12 0,mq 13 5,oo 14 (.idxA 13 (tp 12) (tp 13)),oo 15 (.load (some 13) (tp 14)),oo 16 (.callv (tp 11) [tp 15])] [0,1,5,7,8,16] (.cond (tp 16) (sr [mq 17 5,mq 4 17] [4] .ret) .skip)))) (.region [oo 18 (.bin .add (tp 8) (ci 1)),mq 8 18] (some [0,1,7,8])))))))) (sr [oo 4 (.mv (ci (-1)))] [4] .ret)))
def an_z576z : Ann := ann (List.range 8) ac_z576z
theorem ok_z576z : okd Tryz.prog an_z576z ac_z576z Tryz.f57 := ⟨by kernel_rfl, by kernel_rfl⟩

def ac_z5vdk : AC := (sr [oo 4 (.mv (cq false))] [0,1] (sr [mq 5 0,mq 6 1,oo 7 (.call 117 [tp 5,tp 6]),oo 8 (.bin .geq (tp 7) (ci 0)),mq 4 8] [4] .ret))
def an_z5vdk : Ann := ann (List.range 2) ac_z5vdk
theorem ok_z5vdk : okd Tryz.prog an_z5vdk ac_z5vdk Tryz.f62 := ⟨by kernel_rfl, by kernel_rfl⟩

def ac_zy4fu : AC := (sr [oo 4 (.mv (cq false))] [0,1] (sr [mq 5 0,mq 6 1,oo 7 (.call 131 [tp 5,tp 6]),oo 8 (.bin .geq (tp 7) (ci 0)),mq 4 8] [4] .ret))
def an_zy4fu : Ann := ann (List.range 2) ac_zy4fu
theorem ok_zy4fu : okd Tryz.prog an_zy4fu ac_zy4fu Tryz.f75 := ⟨by kernel_rfl, by kernel_rfl⟩

def ac_zid2e : AC := (sr [oo 4 (.mv (ci 0))] [0,1] (.seq (sr [mq 6 0,oo 7 (.len (tp 6) false),oo 8 (.mv (ci 0))] [0,1,7,8] (.block 0 (.loop (sr [oo 9 (.bin .lss (tp 8) (tp 7))] [0,1,7,8,9] (.seq (.cond (tp 9) .skip (.exit 0)) (.seq (.block 1 (sr [mq 10 8,mq 5 10] [0,1,5,7,8] (sr [mq 11 1,mq 12 0,mq 13 5,oo 14 (.idxA 5 (tp 12) (tp 13)),oo 15 (.load (some 5) (tp 14)),oo 16 (.callv (tp 11) [tp 15])] [0,1,5,7,8,16] (.cond (tp 16) (sr [mq 17 5,mq 4 17] [4] .ret) .skip)))) (.region [oo 18 (.bin .add (tp 8) (ci 1)),mq 8 18] (some [0,1,7,8])))))))) (sr [oo 4 (.mv (ci (-1)))] [4] .ret)))
def an_zid2e : Ann := ann (List.range 8) ac_zid2e
theorem ok_zid2e : okd Tryz.prog an_zid2e ac_zid2e Tryz.f80 := ⟨by kernel_rfl, by kernel_rfl⟩

def ac_z5yno : AC := (sr [oo 5 (.box 108 (tp 2)),oo 6 (.mv (cq false))] [0,1,5] (sr [mq 7 0,oo 8 (.len (tp 7) false),mq 9 1,oo 10 (.bin .leq (tp 8) (tp 9)),mq 11 10,og 11 true 12 (.mv (tp 0)),og 11 true 13 (.mkfn 134 [tp 5]),og 11 true 14 (.call 133 [tp 12,tp 13]),og 11 true 15 (.un .not (tp 14)),oo 16 (.pick (tp 11) (tp 15) (cq false)),mq 6 16] [6] .ret))
def an_z5yno : Ann := ann (List.range 2) ac_z5yno
theorem ok_z5yno : okd Tryz.prog an_z5yno ac_z5yno Tryz.f81 := ⟨by kernel_rfl, by kernel_rfl⟩

def ac_zhfyj : AC := (sr [oo 2 (.mv (cq false))] [0] (.seq (sr [mq 4 0,oo 5 (.len (tp 4) false),oo 6 (.bin .sub (tp 5) (ci 1)),mq 3 6] [0,3] (.block 0 (.loop (.seq (sr [mq 7 3,oo 8 (.bin .gtr (tp 7) (ci 0))] [0,3,8] (.cond (tp 8) .skip (.exit 0))) (.seq (.block 1 (.seq (.draw [mq 11 0,mq 12 3,oo 13 (.idxA 1 (tp 11) (tp 12)),lq 14 13,mq 15 0,mq 16 3,oo 17 (.bin .sub (tp 16) (ci 1)),oo 18 (.idxA 1 (tp 15) (tp 17)),lq 19 18,oo 20 (.call 135 [tp 14,tp 19])] [0,0,3,7,0,0,32,112,240,511] (.take 0 (.take 1 (.take 2 (.take 3 (.take 4 (.take 5 (.take 6 (.take 7 (.take 8 (.alts (.cons 9 true .done .nil))))))))))) (some [0,3,20])) (.cond (tp 20) (sr [oo 2 (.mv (cq false))] [2] .ret) .skip))) (.region [mq 9 3,oo 10 (.bin .sub (tp 9) (ci 1)),mq 3 10] (some [0,3]))))))) (sr [oo 2 (.mv (cq true))] [2] .ret)))
def an_zhfyj : Ann := ann [0,1,2,4,5,3,6] ac_zhfyj
theorem ok_zhfyj : okd Tryz.prog an_zhfyj ac_zhfyj Tryz.f83 := ⟨by kernel_rfl, by kernel_rfl⟩

def ac_zb3kh : AC := (sr [oo 3 (.box 119 (tp 1)),oo 4 (.mv (cq false))] [0,3] (.seq (sr [mq 7 0,oo 8 (.len (tp 7) false),oo 9 (.mv (ci 0))] [0,3,7,8,9] (.block 0 (.loop (sr [oo 10 (.bin .lss (tp 9) (tp 8))] [0,3,7,8,9,10] (.seq (.cond (tp 10) .skip (.exit 0)) (.seq (.block 1 (sr [mq 11 9,oo 12 (.idxA 1 (tp 7) (tp 9)),lq 13 12,oo 6 (.alloc 3 [.pd (.raw (.int .i64 0))]),mq 5 11,.mk none none (.store 1 (tp 6) (tp 13))] [0,3,5,6,7,8,9] (sr [mq 14 0,mq 15 5,oo 16 (.slcL 1 (tp 14) none (some (tp 15))),oo 17 (.mkfn 136 [tp 3,tp 6]),oo 18 (.call 133 [tp 16,tp 17])] [0,3,7,8,9,18] (.cond (tp 18) (sr [oo 4 (.mv (cq true))] [4] .ret) .skip)))) (.region [oo 19 (.bin .add (tp 9) (ci 1)),mq 9 19] (some [0,3,7,8,9])))))))) (sr [oo 4 (.mv (cq false))] [4] .ret)))
def an_zb3kh : Ann := ann (List.range 8) ac_zb3kh
theorem ok_zb3kh : okd Tryz.prog an_zb3kh ac_zb3kh Tryz.f84 := ⟨by kernel_rfl, by kernel_rfl⟩

def ac_zpo9w : AC := (sr [oo 5 (.box 122 (tp 2)),oo 6 (.mv (cq false))] [0,1,5] (sr [mq 7 0,oo 8 (.len (tp 7) false),mq 9 1,oo 10 (.bin .leq (tp 8) (tp 9)),mq 11 10,og 11 true 12 (.mv (tp 0)),og 11 true 13 (.mkfn 139 [tp 5]),og 11 true 14 (.call 138 [tp 12,tp 13]),og 11 true 15 (.un .not (tp 14)),oo 16 (.pick (tp 11) (tp 15) (cq false)),mq 6 16] [6] .ret))
def an_zpo9w : Ann := ann (List.range 2) ac_zpo9w
theorem ok_zpo9w : okd Tryz.prog an_zpo9w ac_zpo9w Tryz.f88 := ⟨by kernel_rfl, by kernel_rfl⟩

def ac_zp700 : AC := (sr [oo 3 (.box 120 (tp 1)),oo 4 (.mv (cq false))] [0,3] (.seq (sr [mq 7 0,oo 8 (.len (tp 7) false),oo 9 (.mv (ci 0))] [0,3,7,8,9] (.block 0 (.loop (sr [oo 10 (.bin .lss (tp 9) (tp 8))] [0,3,7,8,9,10] (.seq (.cond (tp 10) .skip (.exit 0)) (.seq (.block 1 (sr [mq 11 9,oo 12 (.idxA 9 (tp 7) (tp 9)),oo 13 (.load (some 9) (tp 12)),oo 6 (.alloc 49 [.pd (.raw (.string ⟨#[]⟩)),.pd (.raw (.int .i64 0)),.pd (.raw (.bool false)),.pd (.raw (.string ⟨#[]⟩)),.pd (.raw (.int .i64 0)),.pd (.raw (.string ⟨#[]⟩)),.pd (.raw (.string ⟨#[]⟩)),.pd (.raw (.int .i64 0)),.nils]),mq 5 11,.mk none none (.store 9 (tp 6) (tp 13))] [0,3,5,6,7,8,9] (sr [mq 14 0,mq 15 5,oo 16 (.slcL 9 (tp 14) none (some (tp 15))),oo 17 (.mkfn 141 [tp 3,tp 6]),oo 18 (.call 138 [tp 16,tp 17])] [0,3,7,8,9,18] (.cond (tp 18) (sr [oo 4 (.mv (cq true))] [4] .ret) .skip)))) (.region [oo 19 (.bin .add (tp 9) (ci 1)),mq 9 19] (some [0,3,7,8,9])))))))) (sr [oo 4 (.mv (cq false))] [4] .ret)))
def an_zp700 : Ann := ann (List.range 8) ac_zp700
theorem ok_zp700 : okd Tryz.prog an_zp700 ac_zp700 Tryz.f90 := ⟨by kernel_rfl, by kernel_rfl⟩

def ac_zo7vn : AC := (sr [oo 3 (.box 125 (tp 1)),oo 4 (.mv (cq false))] [0,3] (.seq (sr [mq 7 0,oo 8 (.len (tp 7) false),oo 9 (.mv (ci 0))] [0,3,7,8,9] (.block 0 (.loop (sr [oo 10 (.bin .lss (tp 9) (tp 8))] [0,3,7,8,9,10] (.seq (.cond (tp 10) .skip (.exit 0)) (.seq (.block 1 (sr [mq 11 9,oo 12 (.idxA 4 (tp 7) (tp 9)),oo 13 (.load (some 4) (tp 12)),oo 6 (.alloc 55 [.pd (.raw (.string ⟨#[]⟩)),.pd (.raw (.string ⟨#[]⟩)),.pd (.raw (.string ⟨#[]⟩)),.pd (.raw (.int .i64 0))]),mq 5 11,.mk none none (.store 4 (tp 6) (tp 13))] [0,3,5,6,7,8,9] (sr [mq 14 0,mq 15 5,oo 16 (.slcL 4 (tp 14) none (some (tp 15))),oo 17 (.mkfn 143 [tp 3,tp 6]),oo 18 (.call 142 [tp 16,tp 17])] [0,3,7,8,9,18] (.cond (tp 18) (sr [oo 4 (.mv (cq true))] [4] .ret) .skip)))) (.region [oo 19 (.bin .add (tp 9) (ci 1)),mq 9 19] (some [0,3,7,8,9])))))))) (sr [oo 4 (.mv (cq false))] [4] .ret)))
def an_zo7vn : Ann := ann (List.range 8) ac_zo7vn
theorem ok_zo7vn : okd Tryz.prog an_zo7vn ac_zo7vn Tryz.f91 := ⟨by kernel_rfl, by kernel_rfl⟩

def ac_zogir : AC := (sr [oo 3 (.box 86 (tp 1)),oo 4 (.mv (cq false))] [0,3] (.seq (sr [mq 7 0,oo 8 (.len (tp 7) false),oo 9 (.mv (ci 0))] [0,3,7,8,9] (.block 0 (.loop (sr [oo 10 (.bin .lss (tp 9) (tp 8))] [0,3,7,8,9,10] (.seq (.cond (tp 10) .skip (.exit 0)) (.seq (.block 1 (sr [mq 11 9,oo 12 (.idxA 1 (tp 7) (tp 9)),lq 13 12,oo 6 (.alloc 9 [.pd (.raw (.string ⟨#[]⟩))]),mq 5 11,.mk none none (.store 1 (tp 6) (tp 13))] [0,3,5,6,7,8,9] (sr [mq 14 0,mq 15 5,oo 16 (.slcL 1 (tp 14) none (some (tp 15))),oo 17 (.mkfn 145 [tp 3,tp 6]),oo 18 (.call 144 [tp 16,tp 17])] [0,3,7,8,9,18] (.cond (tp 18) (sr [oo 4 (.mv (cq true))] [4] .ret) .skip)))) (.region [oo 19 (.bin .add (tp 9) (ci 1)),mq 9 19] (some [0,3,7,8,9])))))))) (sr [oo 4 (.mv (cq false))] [4] .ret)))
def an_zogir : Ann := ann (List.range 8) ac_zogir
theorem ok_zogir : okd Tryz.prog an_zogir ac_zogir Tryz.f93 := ⟨by kernel_rfl, by kernel_rfl⟩

def ac_zblzf : AC := (sr [oo 5 (.box 128 (tp 2)),oo 6 (.mv (cq false))] [0,1,5] (sr [mq 7 0,oo 8 (.len (tp 7) false),mq 9 1,oo 10 (.bin .leq (tp 8) (tp 9)),mq 11 10,og 11 true 12 (.mv (tp 0)),og 11 true 13 (.mkfn 147 [tp 5]),og 11 true 14 (.call 142 [tp 12,tp 13]),og 11 true 15 (.un .not (tp 14)),oo 16 (.pick (tp 11) (tp 15) (cq false)),mq 6 16] [6] .ret))
def an_zblzf : Ann := ann (List.range 2) ac_zblzf
theorem ok_zblzf : okd Tryz.prog an_zblzf ac_zblzf Tryz.f97 := ⟨by kernel_rfl, by kernel_rfl⟩

def ac_zch4 : AC := (sr [oo 5 (.box 84 (tp 2)),oo 6 (.mv (cq false))] [0,1,5] (sr [mq 7 0,oo 8 (.len (tp 7) false),mq 9 1,oo 10 (.bin .leq (tp 8) (tp 9)),mq 11 10,og 11 true 12 (.mv (tp 0)),og 11 true 13 (.mkfn 148 [tp 5]),og 11 true 14 (.call 144 [tp 12,tp 13]),og 11 true 15 (.un .not (tp 14)),oo 16 (.pick (tp 11) (tp 15) (cq false)),mq 6 16] [6] .ret))
def an_zch4 : Ann := ann (List.range 2) ac_zch4
theorem ok_zch4 : okd Tryz.prog an_zch4 ac_zch4 Tryz.f99 := ⟨by kernel_rfl, by kernel_rfl⟩

def ac_z2qr7 : AC := (sr [oo 5 (.box 131 (tp 2)),oo 6 (.mv (cq false))] [0,1,5] (sr [mq 7 0,oo 8 (.len (tp 7) false),mq 9 1,oo 10 (.bin .leq (tp 8) (tp 9)),mq 11 10,og 11 true 12 (.mv (tp 0)),og 11 true 13 (.mkfn 150 [tp 5]),og 11 true 14 (.call 149 [tp 12,tp 13]),og 11 true 15 (.un .not (tp 14)),oo 16 (.pick (tp 11) (tp 15) (cq false)),mq 6 16] [6] .ret))
def an_z2qr7 : Ann := ann (List.range 2) ac_z2qr7
theorem ok_z2qr7 : okd Tryz.prog an_z2qr7 ac_z2qr7 Tryz.f100 := ⟨by kernel_rfl, by kernel_rfl⟩

def ac_zqdfu : AC := (sr [oo 5 (.box 132 (tp 2)),oo 6 (.mv (cq false))] [0,1,5] (sr [mq 7 0,oo 8 (.len (tp 7) false),mq 9 1,oo 10 (.bin .leq (tp 8) (tp 9)),mq 11 10,og 11 true 12 (.mv (tp 0)),og 11 true 13 (.mkfn 160 [tp 5]),og 11 true 14 (.call 159 [tp 12,tp 13]),og 11 true 15 (.un .not (tp 14)),oo 16 (.pick (tp 11) (tp 15) (cq false)),mq 6 16] [6] .ret))
def an_zqdfu : Ann := ann (List.range 2) ac_zqdfu
theorem ok_zqdfu : okd Tryz.prog an_zqdfu ac_zqdfu Tryz.f106 := ⟨by kernel_rfl, by kernel_rfl⟩

def ac_zfsc3 : AC := (sr [oo 4 (.mv (cq false))] [0,1] (.seq (sr [mq 6 0,oo 7 (.len (tp 6) false),mq 8 1,oo 9 (.len (tp 8) false),oo 10 (.bin .neq (tp 7) (tp 9))] [0,1,10] (.cond (tp 10) (sr [oo 4 (.mv (cq false))] [4] .ret) .skip)) (.seq (sr [mq 11 0,oo 12 (.len (tp 11) false),oo 13 (.mv (ci 0))] [0,1,12,13] (.block 0 (.loop (sr [oo 14 (.bin .lss (tp 13) (tp 12))] [0,1,12,13,14] (.seq (.cond (tp 14) .skip (.exit 0)) (.seq (.block 1 (sr [mq 15 13,mq 5 15] [0,1,5,12,13] (.seq (.draw [mq 16 0,mq 17 5,oo 18 (.idxA 2 (tp 16) (tp 17)),oo 19 (.load (some 2) (tp 18)),mq 20 1,mq 21 5,oo 22 (.idxA 2 (tp 20) (tp 21)),oo 23 (.load (some 2) (tp 22)),oo 24 (.eqs true [.str,.str] (tp 19) (tp 23))] [0,0,3,7,0,0,48,112,255] (.take 0 (.take 1 (.take 2 (.take 3 (.take 4 (.take 5 (.take 6 (.take 7 (.take 8 .done))))))))) (some [0,1,12,13,24])) (.cond (tp 24) (sr [oo 4 (.mv (cq false))] [4] .ret) .skip)))) (.region [oo 25 (.bin .add (tp 13) (ci 1)),mq 13 25] (some [0,1,12,13])))))))) (sr [oo 4 (.mv (cq true))] [4] .ret))))
def an_zfsc3 : Ann := ann (List.range 10) ac_zfsc3
theorem ok_zfsc3 : okd Tryz.prog an_zfsc3 ac_zfsc3 Tryz.f107 := ⟨by kernel_rfl, by kernel_rfl⟩

def ac_zu266 : AC := (sr [oo 4 (.mv (cq false))] [0,1] (.seq (sr [mq 6 0,oo 7 (.len (tp 6) false),mq 8 1,oo 9 (.len (tp 8) false),oo 10 (.bin .neq (tp 7) (tp 9))] [0,1,10] (.cond (tp 10) (sr [oo 4 (.mv (cq false))] [4] .ret) .skip)) (.seq (sr [mq 11 0,oo 12 (.len (tp 11) false),oo 13 (.mv (ci 0))] [0,1,12,13] (.block 0 (.loop (sr [oo 14 (.bin .lss (tp 13) (tp 12))] [0,1,12,13,14] (.seq (.cond (tp 14) .skip (.exit 0)) (.seq (.block 1 (sr [mq 15 13,mq 5 15] [0,1,5,12,13] (.seq (.draw [mq 16 0,mq 17 5,oo 18 (.idxA 1 (tp 16) (tp 17)),lq 19 18,mq 20 1,mq 21 5,oo 22 (.idxA 1 (tp 20) (tp 21)),lq 23 22,oo 24 (.bin .neq (tp 19) (tp 23))] [0,0,3,7,0,0,48,112,255] (.take 0 (.take 1 (.take 2 (.take 3 (.take 4 (.take 5 (.take 6 (.take 7 (.take 8 .done))))))))) (some [0,1,12,13,24])) (.cond (tp 24) (sr [oo 4 (.mv (cq false))] [4] .ret) .skip)))) (.region [oo 25 (.bin .add (tp 13) (ci 1)),mq 13 25] (some [0,1,12,13])))))))) (sr [oo 4 (.mv (cq true))] [4] .ret))))
def an_zu266 : Ann := ann (List.range 10) ac_zu266
theorem ok_zu266 : okd Tryz.prog an_zu266 ac_zu266 Tryz.f108 := ⟨by kernel_rfl, by kernel_rfl⟩

def ac_zdvt9 : AC := (sr [oo 4 (.mv (cq false))] [0,1] (.seq (sr [mq 6 0,oo 7 (.len (tp 6) false),mq 8 1,oo 9 (.len (tp 8) false),oo 10 (.bin .neq (tp 7) (tp 9))] [0,1,10] (.cond (tp 10) (sr [oo 4 (.mv (cq false))] [4] .ret) .skip)) (.seq (sr [mq 11 0,oo 12 (.len (tp 11) false),oo 13 (.mv (ci 0))] [0,1,12,13] (.block 0 (.loop (sr [oo 14 (.bin .lss (tp 13) (tp 12))] [0,1,12,13,14] (.seq (.cond (tp 14) .skip (.exit 0)) (.seq (.block 1 (sr [mq 15 13,mq 5 15] [0,1,5,12,13] (.seq (.draw [mq 16 0,mq 17 5,oo 18 (.idxA 1 (tp 16) (tp 17)),lq 19 18,mq 20 1,mq 21 5,oo 22 (.idxA 1 (tp 20) (tp 21)),lq 23 22,oo 24 (.bin .neq (tp 19) (tp 23))] [0,0,3,7,0,0,48,112,255] (.take 0 (.take 1 (.take 2 (.take 3 (.take 4 (.take 5 (.take 6 (.take 7 (.take 8 .done))))))))) (some [0,1,12,13,24])) (.cond (tp 24) (sr [oo 4 (.mv (cq false))] [4] .ret) .skip)))) (.region [oo 25 (.bin .add (tp 13) (ci 1)),mq 13 25] (some [0,1,12,13])))))))) (sr [oo 4 (.mv (cq true))] [4] .ret))))
def an_zdvt9 : Ann := ann (List.range 10) ac_zdvt9
theorem ok_zdvt9 : okd Tryz.prog an_zdvt9 ac_zdvt9 Tryz.f109 := ⟨by kernel_rfl, by kernel_rfl⟩

def ac_zj0mp : AC := (sr [oo 4 (.mv (cq false))] [0,1] (.seq (sr [mq 6 0,oo 7 (.len (tp 6) false),mq 8 1,oo 9 (.len (tp 8) false),oo 10 (.bin .neq (tp 7) (tp 9))] [0,1,10] (.cond (tp 10) (sr [oo 4 (.mv (cq false))] [4] .ret) .skip)) (.seq (sr [mq 11 0,oo 12 (.len (tp 11) false),oo 13 (.mv (ci 0))] [0,1,12,13] (.block 0 (.loop (sr [oo 14 (.bin .lss (tp 13) (tp 12))] [0,1,12,13,14] (.seq (.cond (tp 14) .skip (.exit 0)) (.seq (.block 1 (sr [mq 15 13,mq 5 15] [0,1,5,12,13] (.seq (.draw [mq 16 0,mq 17 5,oo 18 (.idxA 4 (tp 16) (tp 17)),oo 19 (.load (some 4) (tp 18)),mq 20 1,mq 21 5,oo 22 (.idxA 4 (tp 20) (tp 21)),oo 23 (.load (some 4) (tp 22)),oo 24 (.eqs true [.str,.str,.str,.int] (tp 19) (tp 23))] [0,0,3,7,0,0,48,112,255] (.take 0 (.take 1 (.take 2 (.take 3 (.take 4 (.take 5 (.take 6 (.take 7 (.take 8 .done))))))))) (some [0,1,12,13,24])) (.cond (tp 24) (sr [oo 4 (.mv (cq false))] [4] .ret) .skip)))) (.region [oo 25 (.bin .add (tp 13) (ci 1)),mq 13 25] (some [0,1,12,13])))))))) (sr [oo 4 (.mv (cq true))] [4] .ret))))
def an_zj0mp : Ann := ann (List.range 10) ac_zj0mp
theorem ok_zj0mp : okd Tryz.prog an_zj0mp ac_zj0mp Tryz.f110 := ⟨by kernel_rfl, by kernel_rfl⟩

def ac_zlr2h : AC := (sr [oo 4 (.mv (cq false))] [0,1] (.seq (sr [mq 6 0,oo 7 (.len (tp 6) false),mq 8 1,oo 9 (.len (tp 8) false),oo 10 (.bin .neq (tp 7) (tp 9))] [0,1,10] (.cond (tp 10) (sr [oo 4 (.mv (cq false))] [4] .ret) .skip)) (.seq (sr [mq 11 0,oo 12 (.len (tp 11) false),oo 13 (.mv (ci 0))] [0,1,12,13] (.block 0 (.loop (sr [oo 14 (.bin .lss (tp 13) (tp 12))] [0,1,12,13,14] (.seq (.cond (tp 14) .skip (.exit 0)) (.seq (.block 1 (sr [mq 15 13,mq 5 15] [0,1,5,12,13] (.seq (.draw [mq 16 0,mq 17 5,oo 18 (.idxA 3 (tp 16) (tp 17)),oo 19 (.load (some 3) (tp 18)),mq 20 1,mq 21 5,oo 22 (.idxA 3 (tp 20) (tp 21)),oo 23 (.load (some 3) (tp 22)),oo 24 (.eqs true [.int,.str,.str] (tp 19) (tp 23))] [0,0,3,7,0,0,48,112,255] (.take 0 (.take 1 (.take 2 (.take 3 (.take 4 (.take 5 (.take 6 (.take 7 (.take 8 .done))))))))) (some [0,1,12,13,24])) (.cond (tp 24) (sr [oo 4 (.mv (cq false))] [4] .ret) .skip)))) (.region [oo 25 (.bin .add (tp 13) (ci 1)),mq 13 25] (some [0,1,12,13])))))))) (sr [oo 4 (.mv (cq true))] [4] .ret))))
def an_zlr2h : Ann := ann (List.range 10) ac_zlr2h
theorem ok_zlr2h : okd Tryz.prog an_zlr2h ac_zlr2h Tryz.f111 := ⟨by kernel_rfl, by kernel_rfl⟩

def ac_zuyoe : AC := (sr [oo 6 (.mv (cq false))] [0,1,2] (.seq (sr [mq 10 0,oo 11 (.len (tp 10) false),mq 12 1,oo 13 (.len (tp 12) false),oo 14 (.bin .neq (tp 11) (tp 13))] [0,1,2,14] (.cond (tp 14) (sr [oo 6 (.mv (cq false))] [6] .ret) .skip)) (.seq (sr [mq 15 0,oo 16 (.len (tp 15) false),oo 17 (.mv (ci 0))] [1,2,15,16,17] (.block 0 (.loop (sr [oo 18 (.bin .lss (tp 17) (tp 16))] [1,2,15,16,17,18] (.seq (.cond (tp 18) .skip (.exit 0)) (.seq (.block 1 (sr [mq 19 17,oo 20 (.idxA 9 (tp 15) (tp 17)),oo 21 (.load (some 9) (tp 20)),oo 8 (.alloc 49 [.pd (.raw (.string ⟨#[]⟩)),.pd (.raw (.int .i64 0)),.pd (.raw (.bool false)),.pd (.raw (.string ⟨#[]⟩)),.pd (.raw (.int .i64 0)),.pd (.raw (.string ⟨#[]⟩)),.pd (.raw (.string ⟨#[]⟩)),.pd (.raw (.int .i64 0)),.nils]),mq 7 19,.mk none none (.store 9 (tp 8) (tp 21))] [1,2,7,8,15,16,17] (sr [mq 22 1,mq 23 7,oo 24 (.idxA 9 (tp 22) (tp 23)),oo 25 (.load (some 9) (tp 24)),oo 9 (.alloc 49 [.pd (.raw (.string ⟨#[]⟩)),.pd (.raw (.int .i64 0)),.pd (.raw (.bool false)),.pd (.raw (.string ⟨#[]⟩)),.pd (.raw (.int .i64 0)),.pd (.raw (.string ⟨#[]⟩)),.pd (.raw (.string ⟨#[]⟩)),.pd (.raw (.int .i64 0)),.nils]),.mk none none (.store 9 (tp 9) (tp 25))] [1,2,8,9,15,16,17] (sr [mq 26 2,oo 27 (.load (some 9) (tp 8)),oo 28 (.load (some 9) (tp 9)),oo 29 (.callv (tp 26) [tp 27,tp 28]),oo 30 (.un .not (tp 29))] [1,2,15,16,17,30] (.cond (tp 30) (sr [oo 6 (.mv (cq false))] [6] .ret) .skip))))) (.region [oo 31 (.bin .add (tp 17) (ci 1)),mq 17 31] (some [1,2,15,16,17])))))))) (sr [oo 6 (.mv (cq true))] [6] .ret))))
def an_zuyoe : Ann := ann (List.range 11) ac_zuyoe
theorem ok_zuyoe : okd Tryz.prog an_zuyoe ac_zuyoe Tryz.f112 := ⟨by kernel_rfl, by kernel_rfl⟩

def ac_zi41r : AC := (sr [oo 6 (.mv (cq false))] [0,1,2] (.seq (sr [mq 10 0,oo 11 (.len (tp 10) false),mq 12 1,oo 13 (.len (tp 12) false),oo 14 (.bin .neq (tp 11) (tp 13))] [0,1,2,14] (.cond (tp 14) (sr [oo 6 (.mv (cq false))] [6] .ret) .skip)) (.seq (sr [mq 15 0,oo 16 (.len (tp 15) false),oo 17 (.mv (ci 0))] [1,2,15,16,17] (.block 0 (.loop (sr [oo 18 (.bin .lss (tp 17) (tp 16))] [1,2,15,16,17,18] (.seq (.cond (tp 18) .skip (.exit 0)) (.seq (.block 1 (sr [mq 19 17,oo 20 (.idxA 3 (tp 15) (tp 17)),oo 21 (.load (some 3) (tp 20)),oo 8 (.alloc 69 [.nils,.nils,.nils]),mq 7 19,.mk none none (.store 3 (tp 8) (tp 21))] [1,2,7,8,15,16,17] (sr [mq 22 1,mq 23 7,oo 24 (.idxA 3 (tp 22) (tp 23)),oo 25 (.load (some 3) (tp 24)),oo 9 (.alloc 69 [.nils,.nils,.nils]),.mk none none (.store 3 (tp 9) (tp 25))] [1,2,8,9,15,16,17] (sr [mq 26 2,oo 27 (.load (some 3) (tp 8)),oo 28 (.load (some 3) (tp 9)),oo 29 (.callv (tp 26) [tp 27,tp 28]),oo 30 (.un .not (tp 29))] [1,2,15,16,17,30] (.cond (tp 30) (sr [oo 6 (.mv (cq false))] [6] .ret) .skip))))) (.region [oo 31 (.bin .add (tp 17) (ci 1)),mq 17 31] (some [1,2,15,16,17])))))))) (sr [oo 6 (.mv (cq true))] [6] .ret))))
def an_zi41r : Ann := ann (List.range 11) ac_zi41r
theorem ok_zi41r : okd Tryz.prog an_zi41r ac_zi41r Tryz.f114 := ⟨by kernel_rfl, by kernel_rfl⟩

def ac_zv0lr : AC := (sr [oo 4 (.mv (ci 0))] [0,1] (.seq (sr [mq 6 0,oo 7 (.len (tp 6) false),oo 8 (.mv (ci 0))] [0,1,7,8] (.block 0 (.loop (sr [oo 9 (.bin .lss (tp 8) (tp 7))] [0,1,7,8,9] (.seq (.cond (tp 9) .skip (.exit 0)) (.seq (.block 1 (sr [mq 10 8,mq 5 10] [0,1,5,7,8] (sr [mq 11 1,mq 12 0,mq 13 5,oo 14 (.idxA 1 (tp 12) (tp 13)),lq 15 14,oo 16 (.bin .eql (tp 11) (tp 15))] [0,1,5,7,8,16] (.cond (tp 16) (sr [mq 17 5,mq 4 17] [4] .ret) .skip)))) (.region [oo 18 (.bin .add (tp 8) (ci 1)),mq 8 18] (some [0,1,7,8])))))))) (sr [oo 4 (.mv (ci (-1)))] [4] .ret)))
def an_zv0lr : Ann := ann (List.range 8) ac_zv0lr
theorem ok_zv0lr : okd Tryz.prog an_zv0lr ac_zv0lr Tryz.f117 := ⟨by kernel_rfl, by kernel_rfl⟩

def ac_zijlh : AC := (sr [oo 4 (.mv (ci 0))] [0,1] (.seq (sr [mq 6 0,oo 7 (.len (tp 6) false),oo 8 (.mv (ci 0))] [0,1,7,8] (.block 0 (.loop (sr [oo 9 (.bin .lss (tp 8) (tp 7))] [0,1,7,8,9] (.seq (.cond (tp 9) .skip (.exit 0)) (.seq (.block 1 (sr [mq 10 8,mq 5 10] [0,1,5,7,8] (sr [mq 11 1,mq 12 0,mq 13 5,oo 14 (.idxA 3 (tp 12) (tp 13)),oo 15 (.load (some 3) (tp 14)),oo 16 (.callv (tp 11) [tp 15])] [0,1,5,7,8,16] (.cond (tp 16) (sr [mq 17 5,mq 4 17] [4] .ret) .skip)))) (.region [oo 18 (.bin .add (tp 8) (ci 1)),mq 8 18] (some [0,1,7,8])))))))) (sr [oo 4 (.mv (ci (-1)))] [4] .ret)))
def an_zijlh : Ann := ann (List.range 8) ac_zijlh
theorem ok_zijlh : okd Tryz.prog an_zijlh ac_zijlh Tryz.f131 := ⟨by kernel_rfl, by kernel_rfl⟩

def ac_z2spj : AC := (sr [oo 4 (.mv (cq false))] [0,1] (sr [mq 5 0,mq 6 1,oo 7 (.call 175 [tp 5,tp 6]),oo 8 (.bin .geq (tp 7) (ci 0)),mq 4 8] [4] .ret))
def an_z2spj : Ann := ann (List.range 2) ac_z2spj
theorem ok_z2spj : okd Tryz.prog an_z2spj ac_z2spj Tryz.f133 := ⟨by kernel_rfl, by kernel_rfl⟩

def ac_zkvy2 : AC := (sr [oo 3 (.mv (cq false))] [0,1] (sr [lq 4 1,mq 5 0,oo 6 (.callv (tp 4) [tp 5]),oo 7 (.un .not (tp 6)),mq 3 7] [3] .ret))
def an_zkvy2 : Ann := ann (List.range 2) ac_zkvy2
theorem ok_zkvy2 : okd Tryz.prog an_zkvy2 ac_zkvy2 Tryz.f134 := ⟨by kernel_rfl, by kernel_rfl⟩

def ac_zovpw : AC := (sr [oo 4 (.mv (cq false))] [0,1,2] (sr [lq 5 1,lq 6 2,mq 7 0,oo 8 (.callv (tp 5) [tp 6,tp 7]),mq 4 8] [4] .ret))
def an_zovpw : Ann := ann (List.range 2) ac_zovpw
theorem ok_zovpw : okd Tryz.prog an_zovpw ac_zovpw Tryz.f136 := ⟨by kernel_rfl, by kernel_rfl⟩

def ac_zosgm : AC := (sr [oo 4 (.mv (cq false))] [0,1] (sr [mq 5 0,mq 6 1,oo 7 (.call 178 [tp 5,tp 6]),oo 8 (.bin .geq (tp 7) (ci 0)),mq 4 8] [4] .ret))
def an_zosgm : Ann := ann (List.range 2) ac_zosgm
theorem ok_zosgm : okd Tryz.prog an_zosgm ac_zosgm Tryz.f138 := ⟨by kernel_rfl, by kernel_rfl⟩

def ac_zir97 : AC := (sr [oo 2 (.box 49 (tp 0)),oo 3 (.mv (cq false))] [1,2] (sr [lq 4 1,oo 5 (.load (some 9) (tp 2)),oo 6 (.callv (tp 4) [tp 5]),oo 7 (.un .not (tp 6)),mq 3 7] [3] .ret))
def an_zir97 : Ann := ann (List.range 2) ac_zir97
theorem ok_zir97 : okd Tryz.prog an_zir97 ac_zir97 Tryz.f139 := ⟨by kernel_rfl, by kernel_rfl⟩

def ac_ztyjm : AC := (sr [oo 3 (.box 49 (tp 0)),oo 4 (.mv (cq false))] [1,2,3] (sr [lq 5 1,oo 6 (.load (some 9) (tp 2)),oo 7 (.load (some 9) (tp 3)),oo 8 (.callv (tp 5) [tp 6,tp 7]),mq 4 8] [4] .ret))
def an_ztyjm : Ann := ann (List.range 2) ac_ztyjm
theorem ok_ztyjm : okd Tryz.prog an_ztyjm ac_ztyjm Tryz.f141 := ⟨by kernel_rfl, by kernel_rfl⟩

def ac_zic3s : AC := (sr [oo 4 (.mv (cq false))] [0,1] (sr [mq 5 0,mq 6 1,oo 7 (.call 179 [tp 5,tp 6]),oo 8 (.bin .geq (tp 7) (ci 0)),mq 4 8] [4] .ret))
def an_zic3s : Ann := ann (List.range 2) ac_zic3s
theorem ok_zic3s : okd Tryz.prog an_zic3s ac_zic3s Tryz.f142 := ⟨by kernel_rfl, by kernel_rfl⟩

def ac_z6aq8 : AC := (sr [oo 3 (.box 55 (tp 0)),oo 4 (.mv (cq false))] [1,2,3] (sr [lq 5 1,oo 6 (.load (some 4) (tp 2)),oo 7 (.load (some 4) (tp 3)),oo 8 (.callv (tp 5) [tp 6,tp 7]),mq 4 8] [4] .ret))
def an_z6aq8 : Ann := ann (List.range 2) ac_z6aq8
theorem ok_z6aq8 : okd Tryz.prog an_z6aq8 ac_z6aq8 Tryz.f143 := ⟨by kernel_rfl, by kernel_rfl⟩

def ac_zyx5 : AC := (sr [oo 4 (.mv (cq false))] [0,1] (sr [mq 5 0,mq 6 1,oo 7 (.call 180 [tp 5,tp 6]),oo 8 (.bin .geq (tp 7) (ci 0)),mq 4 8] [4] .ret))
def an_zyx5 : Ann := ann (List.range 2) ac_zyx5
theorem ok_zyx5 : okd Tryz.prog an_zyx5 ac_zyx5 Tryz.f144 := ⟨by kernel_rfl, by kernel_rfl⟩

def ac_zwcip : AC := (sr [oo 4 (.mv (cq false))] [0,1,2] (sr [lq 5 1,lq 6 2,mq 7 0,oo 8 (.callv (tp 5) [tp 6,tp 7]),mq 4 8] [4] .ret))
def an_zwcip : Ann := ann (List.range 2) ac_zwcip
theorem ok_zwcip : okd Tryz.prog an_zwcip ac_zwcip Tryz.f145 := ⟨by kernel_rfl, by kernel_rfl⟩

def ac_z31hg : AC := (sr [oo 2 (.box 55 (tp 0)),oo 3 (.mv (cq false))] [1,2] (sr [lq 4 1,oo 5 (.load (some 4) (tp 2)),oo 6 (.callv (tp 4) [tp 5]),oo 7 (.un .not (tp 6)),mq 3 7] [3] .ret))
def an_z31hg : Ann := ann (List.range 2) ac_z31hg
theorem ok_z31hg : okd Tryz.prog an_z31hg ac_z31hg Tryz.f147 := ⟨by kernel_rfl, by kernel_rfl⟩

def ac_z1wya : AC := (sr [oo 3 (.mv (cq false))] [0,1] (sr [lq 4 1,mq 5 0,oo 6 (.callv (tp 4) [tp 5]),oo 7 (.un .not (tp 6)),mq 3 7] [3] .ret))
def an_z1wya : Ann := ann (List.range 2) ac_z1wya
theorem ok_z1wya : okd Tryz.prog an_z1wya ac_z1wya Tryz.f148 := ⟨by kernel_rfl, by kernel_rfl⟩

def ac_zwd90 : AC := (sr [oo 4 (.mv (cq false))] [0,1] (sr [mq 5 0,mq 6 1,oo 7 (.call 182 [tp 5,tp 6]),oo 8 (.bin .geq (tp 7) (ci 0)),mq 4 8] [4] .ret))
def an_zwd90 : Ann := ann (List.range 2) ac_zwd90
theorem ok_zwd90 : okd Tryz.prog an_zwd90 ac_zwd90 Tryz.f149 := ⟨by kernel_rfl, by kernel_rfl⟩

def ac_z8keb : AC := (sr [oo 2 (.box 69 (tp 0)),oo 3 (.mv (cq false))] [1,2] (sr [lq 4 1,oo 5 (.load (some 3) (tp 2)),oo 6 (.callv (tp 4) [tp 5]),oo 7 (.un .not (tp 6)),mq 3 7] [3] .ret))
def an_z8keb : Ann := ann (List.range 2) ac_z8keb
theorem ok_z8keb : okd Tryz.prog an_z8keb ac_z8keb Tryz.f150 := ⟨by kernel_rfl, by kernel_rfl⟩

def ac_ziqd0 : AC := (sr [oo 5 (.box 157 (tp 2)),oo 6 (.mv (cq false))] [0,1,5] (sr [mq 7 0,oo 8 (.len (tp 7) false),mq 9 1,oo 10 (.bin .leq (tp 8) (tp 9)),mq 11 10,og 11 true 12 (.mv (tp 0)),og 11 true 13 (.mkfn 184 [tp 5]),og 11 true 14 (.call 183 [tp 12,tp 13]),og 11 true 15 (.un .not (tp 14)),oo 16 (.pick (tp 11) (tp 15) (cq false)),mq 6 16] [6] .ret))
def an_ziqd0 : Ann := ann (List.range 2) ac_ziqd0
theorem ok_ziqd0 : okd Tryz.prog an_ziqd0 ac_ziqd0 Tryz.f151 := ⟨by kernel_rfl, by kernel_rfl⟩

def ac_zb5o4 : AC := (sr [oo 5 (.box 160 (tp 2)),oo 6 (.mv (cq false))] [0,1,5] (sr [mq 7 0,oo 8 (.len (tp 7) false),mq 9 1,oo 10 (.bin .leq (tp 8) (tp 9)),mq 11 10,og 11 true 12 (.mv (tp 0)),og 11 true 13 (.mkfn 200 [tp 5]),og 11 true 14 (.call 199 [tp 12,tp 13]),og 11 true 15 (.un .not (tp 14)),oo 16 (.pick (tp 11) (tp 15) (cq false)),mq 6 16] [6] .ret))
def an_zb5o4 : Ann := ann (List.range 2) ac_zb5o4
theorem ok_zb5o4 : okd Tryz.prog an_zb5o4 ac_zb5o4 Tryz.f154 := ⟨by kernel_rfl, by kernel_rfl⟩

def ac_zkgk0 : AC := (sr [oo 4 (.mv (cq false))] [0,1] (sr [mq 5 0,mq 6 1,oo 7 (.call 202 [tp 5,tp 6]),oo 8 (.bin .geq (tp 7) (ci 0)),mq 4 8] [4] .ret))
def an_zkgk0 : Ann := ann (List.range 2) ac_zkgk0
theorem ok_zkgk0 : okd Tryz.prog an_zkgk0 ac_zkgk0 Tryz.f159 := ⟨by kernel_rfl, by kernel_rfl⟩

def ac_z7q8a : AC := (sr [oo 2 (.box 91 (tp 0)),oo 3 (.mv (cq false))] [1,2] (sr [lq 4 1,oo 5 (.load (some 3) (tp 2)),oo 6 (.callv (tp 4) [tp 5]),oo 7 (.un .not (tp 6)),mq 3 7] [3] .ret))
def an_z7q8a : Ann := ann (List.range 2) ac_z7q8a
theorem ok_z7q8a : okd Tryz.prog an_z7q8a ac_z7q8a Tryz.f160 := ⟨by kernel_rfl, by kernel_rfl⟩

def ac_zjaw1 : AC := (sr [oo 6 (.mv (cq false))] [0,1,2] (.seq (sr [mq 10 0,oo 11 (.len (tp 10) false),mq 12 1,oo 13 (.len (tp 12) false),oo 14 (.bin .neq (tp 11) (tp 13))] [0,1,2,14] (.cond (tp 14) (sr [oo 6 (.mv (cq false))] [6] .ret) .skip)) (.seq (sr [mq 15 0,oo 16 (.len (tp 15) false),oo 17 (.mv (ci 0))] [1,2,15,16,17] (.block 0 (.loop (sr [oo 18 (.bin .lss (tp 17) (tp 16))] [1,2,15,16,17,18] (.seq (.cond (tp 18) .skip (.exit 0)) (.seq (.block 1 (sr [mq 19 17,oo 20 (.idxA 5 (tp 15) (tp 17)),oo 21 (.load (some 5) (tp 20)),oo 8 (.alloc 73 [.pd (.raw (.int .i64 0)),.pd (.raw (.string ⟨#[]⟩)),.pd (.raw (.string ⟨#[]⟩)),.nils,.nils]),mq 7 19,.mk none none (.store 5 (tp 8) (tp 21))] [1,2,7,8,15,16,17] (sr [mq 22 1,mq 23 7,oo 24 (.idxA 5 (tp 22) (tp 23)),oo 25 (.load (some 5) (tp 24)),oo 9 (.alloc 73 [.pd (.raw (.int .i64 0)),.pd (.raw (.string ⟨#[]⟩)),.pd (.raw (.string ⟨#[]⟩)),.nils,.nils]),.mk none none (.store 5 (tp 9) (tp 25))] [1,2,8,9,15,16,17] (sr [mq 26 2,oo 27 (.load (some 5) (tp 8)),oo 28 (.load (some 5) (tp 9)),oo 29 (.callv (tp 26) [tp 27,tp 28]),oo 30 (.un .not (tp 29))] [1,2,15,16,17,30] (.cond (tp 30) (sr [oo 6 (.mv (cq false))] [6] .ret) .skip))))) (.region [oo 31 (.bin .add (tp 17) (ci 1)),mq 17 31] (some [1,2,15,16,17])))))))) (sr [oo 6 (.mv (cq true))] [6] .ret))))
def an_zjaw1 : Ann := ann (List.range 11) ac_zjaw1
theorem ok_zjaw1 : okd Tryz.prog an_zjaw1 ac_zjaw1 Tryz.f162 := ⟨by kernel_rfl, by kernel_rfl⟩

def ac_z7uuy : AC := (sr [oo 4 (.mv (cq false))] [0,1] (.seq (sr [mq 6 0,oo 7 (.len (tp 6) false),mq 8 1,oo 9 (.len (tp 8) false),oo 10 (.bin .neq (tp 7) (tp 9))] [0,1,10] (.cond (tp 10) (sr [oo 4 (.mv (cq false))] [4] .ret) .skip)) (.seq (sr [mq 11 0,oo 12 (.len (tp 11) false),oo 13 (.mv (ci 0))] [0,1,12,13] (.block 0 (.loop (sr [oo 14 (.bin .lss (tp 13) (tp 12))] [0,1,12,13,14] (.seq (.cond (tp 14) .skip (.exit 0)) (.seq (.block 1 (sr [mq 15 13,mq 5 15] [0,1,5,12,13] (.seq (.draw [mq 16 0,mq 17 5,oo 18 (.idxA 8 (tp 16) (tp 17)),oo 19 (.load (some 8) (tp 18)),mq 20 1,mq 21 5,oo 22 (.idxA 8 (tp 20) (tp 21)),oo 23 (.load (some 8) (tp 22)),oo 24 (.eqs true [.int,.str,.str,.str,.int,.str,.bool,.int] (tp 19) (tp 23))] [0,0,3,7,0,0,48,112,255] (.take 0 (.take 1 (.take 2 (.take 3 (.take 4 (.take 5 (.take 6 (.take 7 (.take 8 .done))))))))) (some [0,1,12,13,24])) (.cond (tp 24) (sr [oo 4 (.mv (cq false))] [4] .ret) .skip)))) (.region [oo 25 (.bin .add (tp 13) (ci 1)),mq 13 25] (some [0,1,12,13])))))))) (sr [oo 4 (.mv (cq true))] [4] .ret))))
def an_z7uuy : Ann := ann (List.range 10) ac_z7uuy
theorem ok_z7uuy : okd Tryz.prog an_z7uuy ac_z7uuy Tryz.f164 := ⟨by kernel_rfl, by kernel_rfl⟩

def ac_ztr0f : AC := (sr [oo 4 (.mv (cq false))] [0,1] (.seq (sr [mq 6 0,oo 7 (.len (tp 6) false),mq 8 1,oo 9 (.len (tp 8) false),oo 10 (.bin .neq (tp 7) (tp 9))] [0,1,10] (.cond (tp 10) (sr [oo 4 (.mv (cq false))] [4] .ret) .skip)) (.seq (sr [mq 11 0,oo 12 (.len (tp 11) false),oo 13 (.mv (ci 0))] [0,1,12,13] (.block 0 (.loop (sr [oo 14 (.bin .lss (tp 13) (tp 12))] [0,1,12,13,14] (.seq (.cond (tp 14) .skip (.exit 0)) (.seq (.block 1 (sr [mq 15 13,mq 5 15] [0,1,5,12,13] (.seq (.draw [mq 16 0,mq 17 5,oo 18 (.idxA 5 (tp 16) (tp 17)),oo 19 (.load (some 5) (tp 18)),mq 20 1,mq 21 5,oo 22 (.idxA 5 (tp 20) (tp 21)),oo 23 (.load (some 5) (tp 22)),oo 24 (.eqs true [.int,.str,.str,.int,.int] (tp 19) (tp 23))] [0,0,3,7,0,0,48,112,255] (.take 0 (.take 1 (.take 2 (.take 3 (.take 4 (.take 5 (.take 6 (.take 7 (.take 8 .done))))))))) (some [0,1,12,13,24])) (.cond (tp 24) (sr [oo 4 (.mv (cq false))] [4] .ret) .skip)))) (.region [oo 25 (.bin .add (tp 13) (ci 1)),mq 13 25] (some [0,1,12,13])))))))) (sr [oo 4 (.mv (cq true))] [4] .ret))))
def an_ztr0f : Ann := ann (List.range 10) ac_ztr0f
theorem ok_ztr0f : okd Tryz.prog an_ztr0f ac_ztr0f Tryz.f165 := ⟨by kernel_rfl, by kernel_rfl⟩

def ac_zrckh : AC := (sr [oo 4 (.mv (ci 0))] [0,1] (.seq (sr [mq 6 0,oo 7 (.len (tp 6) false),oo 8 (.mv (ci 0))] [0,1,7,8] (.block 0 (.loop (sr [oo 9 (.bin .lss (tp 8) (tp 7))] [0,1,7,8,9] (.seq (.cond (tp 9) .skip (.exit 0)) (.seq (.block 1 (sr [mq 10 8,mq 5 10] [0,1,5,7,8] (sr [mq 11 1,mq 12 0,mq 13 5,oo 14 (.idxA 1 (tp 12) (tp 13)),lq 15 14,oo 16 (.callv (tp 11) [tp 15])] [0,1,5,7,8,16] (.cond (tp 16) (sr [mq 17 5,mq 4 17] [4] .ret) .skip)))) (.region [oo 18 (.bin .add (tp 8) (ci 1)),mq 8 18] (some [0,1,7,8])))))))) (sr [oo 4 (.mv (ci (-1)))] [4] .ret)))
def an_zrckh : Ann := ann (List.range 8) ac_zrckh
theorem ok_zrckh : okd Tryz.prog an_zrckh ac_zrckh Tryz.f175 := ⟨by kernel_rfl, by kernel_rfl⟩

def ac_z3tfr : AC := (sr [oo 4 (.mv (ci 0))] [0,1] (.seq (sr [mq 6 0,oo 7 (.len (tp 6) false),oo 8 (.mv (ci 0))] [0,1,7,8] (.block 0 (.loop (sr [oo 9 (.bin .lss (tp 8) (tp 7))] [0,1,7,8,9] (.seq (.cond (tp 9) .skip (.exit 0)) (.seq (.block 1 (sr [mq 10 8,mq 5 10] [0,1,5,7,8] (sr [mq 11 1,mq 12 0,mq 13 5,oo 14 (.idxA 9 (tp 12) (tp 13)),oo 15 (.load (some 9) (tp 14)),oo 16 (.callv (tp 11) [tp 15])] [0,1,5,7,8,16] (.cond (tp 16) (sr [mq 17 5,mq 4 17] [4] .ret) .skip)))) (.region [oo 18 (.bin .add (tp 8) (ci 1)),mq 8 18] (some [0,1,7,8])))))))) (sr [oo 4 (.mv (ci (-1)))] [4] .ret)))
def an_z3tfr : Ann := ann (List.range 8) ac_z3tfr
theorem ok_z3tfr : okd Tryz.prog an_z3tfr ac_z3tfr Tryz.f178 := ⟨by kernel_rfl, by kernel_rfl⟩

def ac_zwjxg : AC := (sr [oo 4 (.mv (ci 0))] [0,1] (.seq (sr [mq 6 0,oo 7 (.len (tp 6) false),oo 8 (.mv (ci 0))] [0,1,7,8] (.block 0 (.loop (sr [oo 9 (.bin .lss (tp 8) (tp 7))] [0,1,7,8,9] (.seq (.cond (tp 9) .skip (.exit 0)) (.seq (.block 1 (sr [mq 10 8,mq 5 10] [0,1,5,7,8] (sr [mq 11 1,mq 12 0,mq 13 5,oo 14 (.idxA 4 (tp 12) (tp 13)),oo 15 (.load (some 4) (tp 14)),oo 16 (.callv (tp 11) [tp 15])] [0,1,5,7,8,16] (.cond (tp 16) (sr [mq 17 5,mq 4 17] [4] .ret) .skip)))) (.region [oo 18 (.bin .add (tp 8) (ci 1)),mq 8 18] (some [0,1,7,8])))))))) (sr [oo 4 (.mv (ci (-1)))] [4] .ret)))
def an_zwjxg : Ann := ann (List.range 8) ac_zwjxg
theorem ok_zwjxg : okd Tryz.prog an_zwjxg ac_zwjxg Tryz.f179 := ⟨by kernel_rfl, by kernel_rfl⟩

def ac_zski5 : AC := (sr [oo 4 (.mv (ci 0))] [0,1] (.seq (sr [mq 6 0,oo 7 (.len (tp 6) false),oo 8 (.mv (ci 0))] [0,1,7,8] (.block 0 (.loop (sr [oo 9 (.bin .lss (tp 8) (tp 7))] [0,1,7,8,9] (.seq (.cond (tp 9) .skip (.exit 0)) (.seq (.block 1 (sr [mq 10 8,mq 5 10] [0,1,5,7,8] (sr [mq 11 1,mq 12 0,mq 13 5,oo 14 (.idxA 1 (tp 12) (tp 13)),lq 15 14,oo 16 (.callv (tp 11) [tp 15])] [0,1,5,7,8,16] (.cond (tp 16) (sr [mq 17 5,mq 4 17] [4] .ret) .skip)))) (.region [oo 18 (.bin .add (tp 8) (ci 1)),mq 8 18] (some [0,1,7,8])))))))) (sr [oo 4 (.mv (ci (-1)))] [4] .ret)))
def an_zski5 : Ann := ann (List.range 8) ac_zski5
theorem ok_zski5 : okd Tryz.prog an_zski5 ac_zski5 Tryz.f180 := ⟨by kernel_rfl, by kernel_rfl⟩

def ac_zwh23 : AC := (sr [oo 4 (.mv (ci 0))] [0,1] (.seq (sr [mq 6 0,oo 7 (.len (tp 6) false),oo 8 (.mv (ci 0))] [0,1,7,8] (.block 0 (.loop (sr [oo 9 (.bin .lss (tp 8) (tp 7))] [0,1,7,8,9] (.seq (.cond (tp 9) .skip (.exit 0)) (.seq (.block 1 (sr [mq 10 8,mq 5 10] [0,1,5,7,8] (sr [mq 11 1,mq 12 0,mq 13 5,oo 14 (.idxA 3 (tp 12) (tp 13)),oo 15 (.load (some 3) (tp 14)),oo 16 (.callv (tp 11) [tp 15])] [0,1,5,7,8,16] (.cond (tp 16) (sr [mq 17 5,mq 4 17] [4] .ret) .skip)))) (.region [oo 18 (.bin .add (tp 8) (ci 1)),mq 8 18] (some [0,1,7,8])))))))) (sr [oo 4 (.mv (ci (-1)))] [4] .ret)))
def an_zwh23 : Ann := ann (List.range 8) ac_zwh23
theorem ok_zwh23 : okd Tryz.prog an_zwh23 ac_zwh23 Tryz.f182 := ⟨by kernel_rfl, by kernel_rfl⟩

def ac_zmyh8 : AC := (sr [oo 4 (.mv (cq false))] [0,1] (sr [mq 5 0,mq 6 1,oo 7 (.call 219 [tp 5,tp 6]),oo 8 (.bin .geq (tp 7) (ci 0)),mq 4 8] [4] .ret))
def an_zmyh8 : Ann := ann (List.range 2) ac_zmyh8
theorem ok_zmyh8 : okd Tryz.prog an_zmyh8 ac_zmyh8 Tryz.f183 := ⟨by kernel_rfl, by kernel_rfl⟩

def ac_z7wca : AC := (sr [oo 2 (.box 73 (tp 0)),oo 3 (.mv (cq false))] [1,2] (sr [lq 4 1,oo 5 (.load (some 5) (tp 2)),oo 6 (.callv (tp 4) [tp 5]),oo 7 (.un .not (tp 6)),mq 3 7] [3] .ret))
def an_z7wca : Ann := ann (List.range 2) ac_z7wca
theorem ok_z7wca : okd Tryz.prog an_z7wca ac_z7wca Tryz.f184 := ⟨by kernel_rfl, by kernel_rfl⟩

def ac_zr7hm : AC := (sr [oo 4 (.mv (cq false))] [0,1] (sr [mq 5 0,mq 6 1,oo 7 (.call 213 [tp 5,tp 6]),oo 8 (.bin .geq (tp 7) (ci 0)),mq 4 8] [4] .ret))
def an_zr7hm : Ann := ann (List.range 2) ac_zr7hm
theorem ok_zr7hm : okd Tryz.prog an_zr7hm ac_zr7hm Tryz.f190 := ⟨by kernel_rfl, by kernel_rfl⟩

def ac_zi3lv : AC := (sr [oo 4 (.mv (cq false))] [0,1] (sr [mq 5 0,mq 6 1,oo 7 (.call 228 [tp 5,tp 6]),oo 8 (.bin .geq (tp 7) (ci 0)),mq 4 8] [4] .ret))
def an_zi3lv : Ann := ann (List.range 2) ac_zi3lv
theorem ok_zi3lv : okd Tryz.prog an_zi3lv ac_zi3lv Tryz.f198 := ⟨by kernel_rfl, by kernel_rfl⟩

def ac_z7rwg : AC := (sr [oo 4 (.mv (cq false))] [0,1] (sr [mq 5 0,mq 6 1,oo 7 (.call 229 [tp 5,tp 6]),oo 8 (.bin .geq (tp 7) (ci 0)),mq 4 8] [4] .ret))
def an_z7rwg : Ann := ann (List.range 2) ac_z7rwg
theorem ok_z7rwg : okd Tryz.prog an_z7rwg ac_z7rwg Tryz.f199 := ⟨by kernel_rfl, by kernel_rfl⟩

def ac_zi55u : AC := (sr [oo 2 (.box 76 (tp 0)),oo 3 (.mv (cq false))] [1,2] (sr [lq 4 1,oo 5 (.load (some 5) (tp 2)),oo 6 (.callv (tp 4) [tp 5]),oo 7 (.un .not (tp 6)),mq 3 7] [3] .ret))
def an_zi55u : Ann := ann (List.range 2) ac_zi55u
theorem ok_zi55u : okd Tryz.prog an_zi55u ac_zi55u Tryz.f200 := ⟨by kernel_rfl, by kernel_rfl⟩

def ac_zhz8f : AC := (sr [oo 4 (.mv (ci 0))] [0,1] (.seq (sr [mq 6 0,oo 7 (.len (tp 6) false),oo 8 (.mv (ci 0))] [0,1,7,8] (.block 0 (.loop (sr [oo 9 (.bin .lss (tp 8) (tp 7))] [0,1,7,8,9] (.seq (.cond (tp 9) .skip (.exit 0)) (.seq (.block 1 (sr [mq 10 8,mq 5 10] [0,1,5,7,8] (sr [mq 11 1,mq 12 0,mq 13 5,oo 14 (.idxA 3 (tp 12) (tp 13)),oo 15 (.load (some 3) (tp 14)),oo 16 (.callv (tp 11) [tp 15])] [0,1,5,7,8,16] (.cond (tp 16) (sr [mq 17 5,mq 4 17] [4] .ret) .skip)))) (.region [oo 18 (.bin .add (tp 8) (ci 1)),mq 8 18] (some [0,1,7,8])))))))) (sr [oo 4 (.mv (ci (-1)))] [4] .ret)))
def an_zhz8f : Ann := ann (List.range 8) ac_zhz8f
theorem ok_zhz8f : okd Tryz.prog an_zhz8f ac_zhz8f Tryz.f202 := ⟨by kernel_rfl, by kernel_rfl⟩

def ac_zdsnp : AC := (sr [oo 6 (.mv (cq false))] [0,1,2] (.seq (sr [mq 10 0,oo 11 (.len (tp 10) false),mq 12 1,oo 13 (.len (tp 12) false),oo 14 (.bin .neq (tp 11) (tp 13))] [0,1,2,14] (.cond (tp 14) (sr [oo 6 (.mv (cq false))] [6] .ret) .skip)) (.seq (sr [mq 15 0,oo 16 (.len (tp 15) false),oo 17 (.mv (ci 0))] [1,2,15,16,17] (.block 0 (.loop (sr [oo 18 (.bin .lss (tp 17) (tp 16))] [1,2,15,16,17,18] (.seq (.cond (tp 18) .skip (.exit 0)) (.seq (.block 1 (sr [mq 19 17,oo 20 (.idxA 3 (tp 15) (tp 17)),oo 21 (.load (some 3) (tp 20)),oo 8 (.alloc 93 [.pd (.raw (.int .i64 0)),.pd (.raw (.string ⟨#[]⟩)),.nils]),mq 7 19,.mk none none (.store 3 (tp 8) (tp 21))] [1,2,7,8,15,16,17] (sr [mq 22 1,mq 23 7,oo 24 (.idxA 3 (tp 22) (tp 23)),oo 25 (.load (some 3) (tp 24)),oo 9 (.alloc 93 [.pd (.raw (.int .i64 0)),.pd (.raw (.string ⟨#[]⟩)),.nils]),.mk none none (.store 3 (tp 9) (tp 25))] [1,2,8,9,15,16,17] (sr [mq 26 2,oo 27 (.load (some 3) (tp 8)),oo 28 (.load (some 3) (tp 9)),oo 29 (.callv (tp 26) [tp 27,tp 28]),oo 30 (.un .not (tp 29))] [1,2,15,16,17,30] (.cond (tp 30) (sr [oo 6 (.mv (cq false))] [6] .ret) .skip))))) (.region [oo 31 (.bin .add (tp 17) (ci 1)),mq 17 31] (some [1,2,15,16,17])))))))) (sr [oo 6 (.mv (cq true))] [6] .ret))))
def an_zdsnp : Ann := ann (List.range 11) ac_zdsnp
theorem ok_zdsnp : okd Tryz.prog an_zdsnp ac_zdsnp Tryz.f203 := ⟨by kernel_rfl, by kernel_rfl⟩

def ac_zdecl : AC := (sr [oo 4 (.mv (ci 0))] [0,1] (.seq (sr [mq 6 0,oo 7 (.len (tp 6) false),oo 8 (.mv (ci 0))] [0,1,7,8] (.block 0 (.loop (sr [oo 9 (.bin .lss (tp 8) (tp 7))] [0,1,7,8,9] (.seq (.cond (tp 9) .skip (.exit 0)) (.seq (.block 1 (sr [mq 10 8,mq 5 10] [0,1,5,7,8] (sr [mq 11 1,mq 12 0,mq 13 5,oo 14 (.idxA 2 (tp 12) (tp 13)),oo 15 (.load (some 2) (tp 14)),oo 16 (.callv (tp 11) [tp 15])] [0,1,5,7,8,16] (.cond (tp 16) (sr [mq 17 5,mq 4 17] [4] .ret) .skip)))) (.region [oo 18 (.bin .add (tp 8) (ci 1)),mq 8 18] (some [0,1,7,8])))))))) (sr [oo 4 (.mv (ci (-1)))] [4] .ret)))
def an_zdecl : Ann := ann (List.range 8) ac_zdecl
theorem ok_zdecl : okd Tryz.prog an_zdecl ac_zdecl Tryz.f213 := ⟨by kernel_rfl, by kernel_rfl⟩

def ac_zsjmp : AC := (sr [oo 4 (.mv (ci 0))] [0,1] (.seq (sr [mq 6 0,oo 7 (.len (tp 6) false),oo 8 (.mv (ci 0))] [0,1,7,8] (.block 0 (.loop (sr [oo 9 (.bin .lss (tp 8) (tp 7))] [0,1,7,8,9] (.seq (.cond (tp 9) .skip (.exit 0)) (.seq (.block 1 (sr [mq 10 8,mq 5 10] [0,1,5,7,8] (sr [mq 11 1,mq 12 0,mq 13 5,oo 14 (.idxA 5 (tp 12) (tp 13)),oo 15 (.load (some 5) (tp 14)),oo 16 (.callv (tp 11) [tp 15])] [0,1,5,7,8,16] (.cond (tp 16) (sr [mq 17 5,mq 4 17] [4] .ret) .skip)))) (.region [oo 18 (.bin .add (tp 8) (ci 1)),mq 8 18] (some [0,1,7,8])))))))) (sr [oo 4 (.mv (ci (-1)))] [4] .ret)))
def an_zsjmp : Ann := ann (List.range 8) ac_zsjmp
theorem ok_zsjmp : okd Tryz.prog an_zsjmp ac_zsjmp Tryz.f219 := ⟨by kernel_rfl, by kernel_rfl⟩

def ac_zwgkv : AC := (sr [oo 4 (.mv (ci 0))] [0,1] (.seq (sr [mq 6 0,oo 7 (.len (tp 6) false),oo 8 (.mv (ci 0))] [0,1,7,8] (.block 0 (.loop (sr [oo 9 (.bin .lss (tp 8) (tp 7))] [0,1,7,8,9] (.seq (.cond (tp 9) .skip (.exit 0)) (.seq (.block 1 (sr [mq 10 8,mq 5 10] [0,1,5,7,8] (sr [mq 11 1,mq 12 0,mq 13 5,oo 14 (.idxA 8 (tp 12) (tp 13)),oo 15 (.load (some 8) (tp 14)),oo 16 (.callv (tp 11) [tp 15])] [0,1,5,7,8,16] (.cond (tp 16) (sr [mq 17 5,mq 4 17] [4] .ret) .skip)))) (.region [oo 18 (.bin .add (tp 8) (ci 1)),mq 8 18] (some [0,1,7,8])))))))) (sr [oo 4 (.mv (ci (-1)))] [4] .ret)))
def an_zwgkv : Ann := ann (List.range 8) ac_zwgkv
theorem ok_zwgkv : okd Tryz.prog an_zwgkv ac_zwgkv Tryz.f228 := ⟨by kernel_rfl, by kernel_rfl⟩

def ac_zbcsd : AC := (sr [oo 4 (.mv (ci 0))] [0,1] (.seq (sr [mq 6 0,oo 7 (.len (tp 6) false),oo 8 (.mv (ci 0))] [0,1,7,8] (.block 0 (.loop (sr [oo 9 (.bin .lss (tp 8) (tp 7))] [0,1,7,8,9] (.seq (.cond (tp 9) .skip (.exit 0)) (.seq (.block 1 (sr [mq 10 8,mq 5 10] [0,1,5,7,8] (sr [mq 11 1,mq 12 0,mq 13 5,oo 14 (.idxA 5 (tp 12) (tp 13)),oo 15 (.load (some 5) (tp 14)),oo 16 (.callv (tp 11) [tp 15])] [0,1,5,7,8,16] (.cond (tp 16) (sr [mq 17 5,mq 4 17] [4] .ret) .skip)))) (.region [oo 18 (.bin .add (tp 8) (ci 1)),mq 8 18] (some [0,1,7,8])))))))) (sr [oo 4 (.mv (ci (-1)))] [4] .ret)))
def an_zbcsd : Ann := ann (List.range 8) ac_zbcsd
theorem ok_zbcsd : okd Tryz.prog an_zbcsd ac_zbcsd Tryz.f229 := ⟨by kernel_rfl, by kernel_rfl⟩

end Go.Proofs.YtcnhcamimcpinaaGreatDoor


namespace Go.Proofs.YtcnhcamimcpinaaGreatDoor
open Go Go.RowKit
set_option linter.unusedSimpArgs false
set_option linter.unusedVariables false
set_option maxRecDepth 100000

theorem IndexFunc_Object (p : AObj → Bool) (g : FuncId) (he : Enters Tryz.prog g) (caps : List (Nat × Nat)) (bs : List (Nat × List D)) (hc : Cl bs caps) (l : List AObj) (hl : l.length ≤ 1000000)
 (hp : ∀ x ∈ l, PureB Tryz.prog g (AObj.d x :: capD caps) bs (fun d => d = bln (p x))) :
 PureB Tryz.prog 57 [.pd (.slice (rows AObj.pd l)), .fn g caps] bs (fun d => d = int (lidx p l 0)) := by
 refine pureB_of_run follows an_z576z Tryz.func57 rfl ok_z576z.1 ok_z576z.2 (by simp [Tryz.ntmps57]) ?_
 rw [run_start]
 simp only [ac_z576z, go_sem, contS_seq, simprocAttr, rows_len]
 refine loopS (fun k st => ∃ i : Nat, k = l.length - i ∧ i ≤ l.length ∧ lidx p (l.drop i) i = lidx p l 0 ∧
  st = ⟨[(0, .pd (.slice (rows AObj.pd l))), (1, .fn g caps), (7, int l.length), (8, int i)], bs, [], .no⟩) l.length _ (Weak.refl _ _) ⟨0, rfl, Nat.zero_le _, rfl, rfl⟩ ?_
 rintro k st ⟨i, rfl, hi, hr, rfl⟩
 by_cases hlt : i < l.length
 ·obtain ⟨x, hx⟩ := at_lt hlt
  have hlt' : ((i : Int) < (l.length : Int)) = True := eq_true (by omega)
  have hw := i64_succ (show i < 1000000000 by omega)
  rw [drop_at hx, lidx] at hr
  simp only [go_sem, contS_seq, simprocAttr, hlt', rows_get hx]
  refine (hp x (List.mem_of_getElem? hx)).callW he _ (idr bs) hc.ok (hc.args (by rfl)) hc.see ?_
  rintro d rfl
  simp only [go_sem, contS_seq, simprocAttr]
  refine Gif.mk (fun h => ?_) (fun h => ?_)
  ·rw [if_pos h] at hr
   simp only [retK, resD, retL, oneD, simprocAttr, Tryz.results57]
   exact ⟨_, rfl, rfl, congrArg int hr⟩
  ·rw [if_neg (by simp [h])] at hr
   simp only [go_sem, contS_seq, simprocAttr, hw]
   refine ⟨l.length - (i + 1), _, ?_, ?_, i + 1, rfl, ?_, hr, rfl⟩
   ·omega
   ·exact Weak.less (by simp [lessL, lk]) (lessL_refl hc.nd) (by simp [lessL, lk]) rfl
   ·omega
 ·have hlt' : ((i : Int) < (l.length : Int)) = False := eq_false (by omega)
  rw [List.drop_eq_nil_of_le (by omega), lidx] at hr
  simp only [go_sem, contS_seq, simprocAttr, rows_len, hlt']
  simp only [retK, resD, retL, oneD, simprocAttr, Tryz.results57]
  exact ⟨_, rfl, rfl, congrArg int hr⟩

theorem IndexFunc_Side (p : ASide → Bool) (g : FuncId) (he : Enters Tryz.prog g) (caps : List (Nat × Nat)) (bs : List (Nat × List D)) (hc : Cl bs caps) (l : List ASide) (hl : l.length ≤ 1000000)
 (hp : ∀ x ∈ l, PureB Tryz.prog g (ASide.d x :: capD caps) bs (fun d => d = bln (p x))) :
 PureB Tryz.prog 202 [.pd (.slice (rows ASide.pd l)), .fn g caps] bs (fun d => d = int (lidx p l 0)) := by
 refine pureB_of_run follows an_zhz8f Tryz.func202 rfl ok_zhz8f.1 ok_zhz8f.2 (by simp [Tryz.ntmps202]) ?_
 rw [run_start]
 simp only [ac_zhz8f, go_sem, contS_seq, simprocAttr, rows_len]
 refine loopS (fun k st => ∃ i : Nat, k = l.length - i ∧ i ≤ l.length ∧ lidx p (l.drop i) i = lidx p l 0 ∧
  st = ⟨[(0, .pd (.slice (rows ASide.pd l))), (1, .fn g caps), (7, int l.length), (8, int i)], bs, [], .no⟩) l.length _ (Weak.refl _ _) ⟨0, rfl, Nat.zero_le _, rfl, rfl⟩ ?_
 rintro k st ⟨i, rfl, hi, hr, rfl⟩
 by_cases hlt : i < l.length
 ·obtain ⟨x, hx⟩ := at_lt hlt
  have hlt' : ((i : Int) < (l.length : Int)) = True := eq_true (by omega)
  have hw := i64_succ (show i < 1000000000 by omega)
  rw [drop_at hx, lidx] at hr
  simp only [go_sem, contS_seq, simprocAttr, hlt', rows_get hx]
  refine (hp x (List.mem_of_getElem? hx)).callW he _ (idr bs) hc.ok (hc.args (by rfl)) hc.see ?_
  rintro d rfl
  simp only [go_sem, contS_seq, simprocAttr]
  refine Gif.mk (fun h => ?_) (fun h => ?_)
  ·rw [if_pos h] at hr
   simp only [retK, resD, retL, oneD, simprocAttr, Tryz.results202]
   exact ⟨_, rfl, rfl, congrArg int hr⟩
  ·rw [if_neg (by simp [h])] at hr
   simp only [go_sem, contS_seq, simprocAttr, hw]
   refine ⟨l.length - (i + 1), _, ?_, ?_, i + 1, rfl, ?_, hr, rfl⟩
   ·omega
   ·exact Weak.less (by simp [lessL, lk]) (lessL_refl hc.nd) (by simp [lessL, lk]) rfl
   ·omega
 ·have hlt' : ((i : Int) < (l.length : Int)) = False := eq_false (by omega)
  rw [List.drop_eq_nil_of_le (by omega), lidx] at hr
  simp only [go_sem, contS_seq, simprocAttr, rows_len, hlt']
  simp only [retK, resD, retL, oneD, simprocAttr, Tryz.results202]
  exact ⟨_, rfl, rfl, congrArg int hr⟩

theorem IndexFunc_int (p : Int → Bool) (g : FuncId) (he : Enters Tryz.prog g) (caps : List (Nat × Nat)) (bs : List (Nat × List D)) (hc : Cl bs caps) (l : List Int) (hl : l.length ≤ 1000000)
 (hp : ∀ x ∈ l, PureB Tryz.prog g (int x :: capD caps) bs (fun d => d = bln (p x))) :
 PureB Tryz.prog 175 [.pd (.slice (rows cInt l)), .fn g caps] bs (fun d => d = int (lidx p l 0)) := by
 refine pureB_of_run follows an_zrckh Tryz.func175 rfl ok_zrckh.1 ok_zrckh.2 (by simp [Tryz.ntmps175]) ?_
 rw [run_start]
 simp only [ac_zrckh, go_sem, contS_seq, simprocAttr, rows_len]
 refine loopS (fun k st => ∃ i : Nat, k = l.length - i ∧ i ≤ l.length ∧ lidx p (l.drop i) i = lidx p l 0 ∧
  st = ⟨[(0, .pd (.slice (rows cInt l))), (1, .fn g caps), (7, int l.length), (8, int i)], bs, [], .no⟩) l.length _ (Weak.refl _ _) ⟨0, rfl, Nat.zero_le _, rfl, rfl⟩ ?_
 rintro k st ⟨i, rfl, hi, hr, rfl⟩
 by_cases hlt : i < l.length
 ·obtain ⟨x, hx⟩ := at_lt hlt
  have hlt' : ((i : Int) < (l.length : Int)) = True := eq_true (by omega)
  have hw := i64_succ (show i < 1000000000 by omega)
  rw [drop_at hx, lidx] at hr
  simp only [go_sem, contS_seq, simprocAttr, hlt', rows_get hx]
  refine (hp x (List.mem_of_getElem? hx)).callW he _ (idr bs) hc.ok (hc.args (by rfl)) hc.see ?_
  rintro d rfl
  simp only [go_sem, contS_seq, simprocAttr]
  refine Gif.mk (fun h => ?_) (fun h => ?_)
  ·rw [if_pos h] at hr
   simp only [retK, resD, retL, oneD, simprocAttr, Tryz.results175]
   exact ⟨_, rfl, rfl, congrArg int hr⟩
  ·rw [if_neg (by simp [h])] at hr
   simp only [go_sem, contS_seq, simprocAttr, hw]
   refine ⟨l.length - (i + 1), _, ?_, ?_, i + 1, rfl, ?_, hr, rfl⟩
   ·omega
   ·exact Weak.less (by simp [lessL, lk]) (lessL_refl hc.nd) (by simp [lessL, lk]) rfl
   ·omega
 ·have hlt' : ((i : Int) < (l.length : Int)) = False := eq_false (by omega)
  rw [List.drop_eq_nil_of_le (by omega), lidx] at hr
  simp only [go_sem, contS_seq, simprocAttr, rows_len, hlt']
  simp only [retK, resD, retL, oneD, simprocAttr, Tryz.results175]
  exact ⟨_, rfl, rfl, congrArg int hr⟩

theorem IndexFunc_Listener (p : AListener → Bool) (g : FuncId) (he : Enters Tryz.prog g) (caps : List (Nat × Nat)) (bs : List (Nat × List D)) (hc : Cl bs caps) (l : List AListener) (hl : l.length ≤ 1000000)
 (hp : ∀ x ∈ l, PureB Tryz.prog g (AListener.d x :: capD caps) bs (fun d => d = bln (p x))) :
 PureB Tryz.prog 178 [.pd (.slice (rows AListener.pd l)), .fn g caps] bs (fun d => d = int (lidx p l 0)) := by
 refine pureB_of_run follows an_z3tfr Tryz.func178 rfl ok_z3tfr.1 ok_z3tfr.2 (by simp [Tryz.ntmps178]) ?_
 rw [run_start]
 simp only [ac_z3tfr, go_sem, contS_seq, simprocAttr, rows_len]
 refine loopS (fun k st => ∃ i : Nat, k = l.length - i ∧ i ≤ l.length ∧ lidx p (l.drop i) i = lidx p l 0 ∧
  st = ⟨[(0, .pd (.slice (rows AListener.pd l))), (1, .fn g caps), (7, int l.length), (8, int i)], bs, [], .no⟩) l.length _ (Weak.refl _ _) ⟨0, rfl, Nat.zero_le _, rfl, rfl⟩ ?_
 rintro k st ⟨i, rfl, hi, hr, rfl⟩
 by_cases hlt : i < l.length
 ·obtain ⟨x, hx⟩ := at_lt hlt
  have hlt' : ((i : Int) < (l.length : Int)) = True := eq_true (by omega)
  have hw := i64_succ (show i < 1000000000 by omega)
  rw [drop_at hx, lidx] at hr
  simp only [go_sem, contS_seq, simprocAttr, hlt', rows_get hx]
  refine (hp x (List.mem_of_getElem? hx)).callW he _ (idr bs) hc.ok (hc.args (by rfl)) hc.see ?_
  rintro d rfl
  simp only [go_sem, contS_seq, simprocAttr]
  refine Gif.mk (fun h => ?_) (fun h => ?_)
  ·rw [if_pos h] at hr
   simp only [retK, resD, retL, oneD, simprocAttr, Tryz.results178]
   exact ⟨_, rfl, rfl, congrArg int hr⟩
  ·rw [if_neg (by simp [h])] at hr
   simp only [go_sem, contS_seq, simprocAttr, hw]
   refine ⟨l.length - (i + 1), _, ?_, ?_, i + 1, rfl, ?_, hr, rfl⟩
   ·omega
   ·exact Weak.less (by simp [lessL, lk]) (lessL_refl hc.nd) (by simp [lessL, lk]) rfl
   ·omega
 ·have hlt' : ((i : Int) < (l.length : Int)) = False := eq_false (by omega)
  rw [List.drop_eq_nil_of_le (by omega), lidx] at hr
  simp only [go_sem, contS_seq, simprocAttr, rows_len, hlt']
  simp only [retK, resD, retL, oneD, simprocAttr, Tryz.results178]
  exact ⟨_, rfl, rfl, congrArg int hr⟩

theorem IndexFunc_Need (p : ANeed → Bool) (g : FuncId) (he : Enters Tryz.prog g) (caps : List (Nat × Nat)) (bs : List (Nat × List D)) (hc : Cl bs caps) (l : List ANeed) (hl : l.length ≤ 1000000)
 (hp : ∀ x ∈ l, PureB Tryz.prog g (ANeed.d x :: capD caps) bs (fun d => d = bln (p x))) :
 PureB Tryz.prog 131 [.pd (.slice (rows ANeed.pd l)), .fn g caps] bs (fun d => d = int (lidx p l 0)) := by
 refine pureB_of_run follows an_zijlh Tryz.func131 rfl ok_zijlh.1 ok_zijlh.2 (by simp [Tryz.ntmps131]) ?_
 rw [run_start]
 simp only [ac_zijlh, go_sem, contS_seq, simprocAttr, rows_len]
 refine loopS (fun k st => ∃ i : Nat, k = l.length - i ∧ i ≤ l.length ∧ lidx p (l.drop i) i = lidx p l 0 ∧
  st = ⟨[(0, .pd (.slice (rows ANeed.pd l))), (1, .fn g caps), (7, int l.length), (8, int i)], bs, [], .no⟩) l.length _ (Weak.refl _ _) ⟨0, rfl, Nat.zero_le _, rfl, rfl⟩ ?_
 rintro k st ⟨i, rfl, hi, hr, rfl⟩
 by_cases hlt : i < l.length
 ·obtain ⟨x, hx⟩ := at_lt hlt
  have hlt' : ((i : Int) < (l.length : Int)) = True := eq_true (by omega)
  have hw := i64_succ (show i < 1000000000 by omega)
  rw [drop_at hx, lidx] at hr
  simp only [go_sem, contS_seq, simprocAttr, hlt', rows_get hx]
  refine (hp x (List.mem_of_getElem? hx)).callW he _ (idr bs) hc.ok (hc.args (by rfl)) hc.see ?_
  rintro d rfl
  simp only [go_sem, contS_seq, simprocAttr]
  refine Gif.mk (fun h => ?_) (fun h => ?_)
  ·rw [if_pos h] at hr
   simp only [retK, resD, retL, oneD, simprocAttr, Tryz.results131]
   exact ⟨_, rfl, rfl, congrArg int hr⟩
  ·rw [if_neg (by simp [h])] at hr
   simp only [go_sem, contS_seq, simprocAttr, hw]
   refine ⟨l.length - (i + 1), _, ?_, ?_, i + 1, rfl, ?_, hr, rfl⟩
   ·omega
   ·exact Weak.less (by simp [lessL, lk]) (lessL_refl hc.nd) (by simp [lessL, lk]) rfl
   ·omega
 ·have hlt' : ((i : Int) < (l.length : Int)) = False := eq_false (by omega)
  rw [List.drop_eq_nil_of_le (by omega), lidx] at hr
  simp only [go_sem, contS_seq, simprocAttr, rows_len, hlt']
  simp only [retK, resD, retL, oneD, simprocAttr, Tryz.results131]
  exact ⟨_, rfl, rfl, congrArg int hr⟩

theorem IndexFunc_Parent (p : AParent → Bool) (g : FuncId) (he : Enters Tryz.prog g) (caps : List (Nat × Nat)) (bs : List (Nat × List D)) (hc : Cl bs caps) (l : List AParent) (hl : l.length ≤ 1000000)
 (hp : ∀ x ∈ l, PureB Tryz.prog g (AParent.d x :: capD caps) bs (fun d => d = bln (p x))) :
 PureB Tryz.prog 179 [.pd (.slice (rows AParent.pd l)), .fn g caps] bs (fun d => d = int (lidx p l 0)) := by
 refine pureB_of_run follows an_zwjxg Tryz.func179 rfl ok_zwjxg.1 ok_zwjxg.2 (by simp [Tryz.ntmps179]) ?_
 rw [run_start]
 simp only [ac_zwjxg, go_sem, contS_seq, simprocAttr, rows_len]
 refine loopS (fun k st => ∃ i : Nat, k = l.length - i ∧ i ≤ l.length ∧ lidx p (l.drop i) i = lidx p l 0 ∧
  st = ⟨[(0, .pd (.slice (rows AParent.pd l))), (1, .fn g caps), (7, int l.length), (8, int i)], bs, [], .no⟩) l.length _ (Weak.refl _ _) ⟨0, rfl, Nat.zero_le _, rfl, rfl⟩ ?_
 rintro k st ⟨i, rfl, hi, hr, rfl⟩
 by_cases hlt : i < l.length
 ·obtain ⟨x, hx⟩ := at_lt hlt
  have hlt' : ((i : Int) < (l.length : Int)) = True := eq_true (by omega)
  have hw := i64_succ (show i < 1000000000 by omega)
  rw [drop_at hx, lidx] at hr
  simp only [go_sem, contS_seq, simprocAttr, hlt', rows_get hx]
  refine (hp x (List.mem_of_getElem? hx)).callW he _ (idr bs) hc.ok (hc.args (by rfl)) hc.see ?_
  rintro d rfl
  simp only [go_sem, contS_seq, simprocAttr]
  refine Gif.mk (fun h => ?_) (fun h => ?_)
  ·rw [if_pos h] at hr
   simp only [retK, resD, retL, oneD, simprocAttr, Tryz.results179]
   exact ⟨_, rfl, rfl, congrArg int hr⟩
  ·rw [if_neg (by simp [h])] at hr
   simp only [go_sem, contS_seq, simprocAttr, hw]
   refine ⟨l.length - (i + 1), _, ?_, ?_, i + 1, rfl, ?_, hr, rfl⟩
   ·omega
   ·exact Weak.less (by simp [lessL, lk]) (lessL_refl hc.nd) (by simp [lessL, lk]) rfl
   ·omega
 ·have hlt' : ((i : Int) < (l.length : Int)) = False := eq_false (by omega)
  rw [List.drop_eq_nil_of_le (by omega), lidx] at hr
  simp only [go_sem, contS_seq, simprocAttr, rows_len, hlt']
  simp only [retK, resD, retL, oneD, simprocAttr, Tryz.results179]
  exact ⟨_, rfl, rfl, congrArg int hr⟩

theorem IndexFunc_string (p : ByteArray → Bool) (g : FuncId) (he : Enters Tryz.prog g) (caps : List (Nat × Nat)) (bs : List (Nat × List D)) (hc : Cl bs caps) (l : List ByteArray) (hl : l.length ≤ 1000000)
 (hp : ∀ x ∈ l, PureB Tryz.prog g (str x :: capD caps) bs (fun d => d = bln (p x))) :
 PureB Tryz.prog 180 [.pd (.slice (rows cStr l)), .fn g caps] bs (fun d => d = int (lidx p l 0)) := by
 refine pureB_of_run follows an_zski5 Tryz.func180 rfl ok_zski5.1 ok_zski5.2 (by simp [Tryz.ntmps180]) ?_
 rw [run_start]
 simp only [ac_zski5, go_sem, contS_seq, simprocAttr, rows_len]
 refine loopS (fun k st => ∃ i : Nat, k = l.length - i ∧ i ≤ l.length ∧ lidx p (l.drop i) i = lidx p l 0 ∧
  st = ⟨[(0, .pd (.slice (rows cStr l))), (1, .fn g caps), (7, int l.length), (8, int i)], bs, [], .no⟩) l.length _ (Weak.refl _ _) ⟨0, rfl, Nat.zero_le _, rfl, rfl⟩ ?_
 rintro k st ⟨i, rfl, hi, hr, rfl⟩
 by_cases hlt : i < l.length
 ·obtain ⟨x, hx⟩ := at_lt hlt
  have hlt' : ((i : Int) < (l.length : Int)) = True := eq_true (by omega)
  have hw := i64_succ (show i < 1000000000 by omega)
  rw [drop_at hx, lidx] at hr
  simp only [go_sem, contS_seq, simprocAttr, hlt', rows_get hx]
  refine (hp x (List.mem_of_getElem? hx)).callW he _ (idr bs) hc.ok (hc.args (by rfl)) hc.see ?_
  rintro d rfl
  simp only [go_sem, contS_seq, simprocAttr]
  refine Gif.mk (fun h => ?_) (fun h => ?_)
  ·rw [if_pos h] at hr
   simp only [retK, resD, retL, oneD, simprocAttr, Tryz.results180]
   exact ⟨_, rfl, rfl, congrArg int hr⟩
  ·rw [if_neg (by simp [h])] at hr
   simp only [go_sem, contS_seq, simprocAttr, hw]
   refine ⟨l.length - (i + 1), _, ?_, ?_, i + 1, rfl, ?_, hr, rfl⟩
   ·omega
   ·exact Weak.less (by simp [lessL, lk]) (lessL_refl hc.nd) (by simp [lessL, lk]) rfl
   ·omega
 ·have hlt' : ((i : Int) < (l.length : Int)) = False := eq_false (by omega)
  rw [List.drop_eq_nil_of_le (by omega), lidx] at hr
  simp only [go_sem, contS_seq, simprocAttr, rows_len, hlt']
  simp only [retK, resD, retL, oneD, simprocAttr, Tryz.results180]
  exact ⟨_, rfl, rfl, congrArg int hr⟩


theorem IndexFunc_Rule (p : ARule → Bool) (g : FuncId) (he : Enters Tryz.prog g) (caps : List (Nat × Nat)) (bs : List (Nat × List D)) (hc : Cl bs caps) (l : List ARule) (hl : l.length ≤ 1000000)
 (hp : ∀ x ∈ l, PureB Tryz.prog g (ARule.d x :: capD caps) bs (fun d => d = bln (p x))) :
 PureB Tryz.prog 182 [.pd (.slice (rows ARule.pd l)), .fn g caps] bs (fun d => d = int (lidx p l 0)) := by
 refine pureB_of_run follows an_zwh23 Tryz.func182 rfl ok_zwh23.1 ok_zwh23.2 (by simp [Tryz.ntmps182]) ?_
 rw [run_start]
 simp only [ac_zwh23, go_sem, contS_seq, simprocAttr, rows_len]
 refine loopS (fun k st => ∃ i : Nat, k = l.length - i ∧ i ≤ l.length ∧ lidx p (l.drop i) i = lidx p l 0 ∧
  st = ⟨[(0, .pd (.slice (rows ARule.pd l))), (1, .fn g caps), (7, int l.length), (8, int i)], bs, [], .no⟩) l.length _ (Weak.refl _ _) ⟨0, rfl, Nat.zero_le _, rfl, rfl⟩ ?_
 rintro k st ⟨i, rfl, hi, hr, rfl⟩
 by_cases hlt : i < l.length
 ·obtain ⟨x, hx⟩ := at_lt hlt
  have hlt' : ((i : Int) < (l.length : Int)) = True := eq_true (by omega)
  have hw := i64_succ (show i < 1000000000 by omega)
  rw [drop_at hx, lidx] at hr
  simp only [go_sem, contS_seq, simprocAttr, hlt', rows_get hx]
  refine (hp x (List.mem_of_getElem? hx)).callW he _ (idr bs) hc.ok (hc.args (by rfl)) hc.see ?_
  rintro d rfl
  simp only [go_sem, contS_seq, simprocAttr]
  refine Gif.mk (fun h => ?_) (fun h => ?_)
  ·rw [if_pos h] at hr
   simp only [retK, resD, retL, oneD, simprocAttr, Tryz.results182]
   exact ⟨_, rfl, rfl, congrArg int hr⟩
  ·rw [if_neg (by simp [h])] at hr
   simp only [go_sem, contS_seq, simprocAttr, hw]
   refine ⟨l.length - (i + 1), _, ?_, ?_, i + 1, rfl, ?_, hr, rfl⟩
   ·omega
   ·exact Weak.less (by simp [lessL, lk]) (lessL_refl hc.nd) (by simp [lessL, lk]) rfl
   ·omega
 ·have hlt' : ((i : Int) < (l.length : Int)) = False := eq_false (by omega)
  rw [List.drop_eq_nil_of_le (by omega), lidx] at hr
  simp only [go_sem, contS_seq, simprocAttr, rows_len, hlt']
  simp only [retK, resD, retL, oneD, simprocAttr, Tryz.results182]
  exact ⟨_, rfl, rfl, congrArg int hr⟩

theorem IndexFunc_Match (p : AMatch → Bool) (g : FuncId) (he : Enters Tryz.prog g) (caps : List (Nat × Nat)) (bs : List (Nat × List D)) (hc : Cl bs caps) (l : List AMatch) (hl : l.length ≤ 1000000)
 (hp : ∀ x ∈ l, PureB Tryz.prog g (AMatch.d x :: capD caps) bs (fun d => d = bln (p x))) :
 PureB Tryz.prog 219 [.pd (.slice (rows AMatch.pd l)), .fn g caps] bs (fun d => d = int (lidx p l 0)) := by
 refine pureB_of_run follows an_zsjmp Tryz.func219 rfl ok_zsjmp.1 ok_zsjmp.2 (by simp [Tryz.ntmps219]) ?_
 rw [run_start]
 simp only [ac_zsjmp, go_sem, contS_seq, simprocAttr, rows_len]
 refine loopS (fun k st => ∃ i : Nat, k = l.length - i ∧ i ≤ l.length ∧ lidx p (l.drop i) i = lidx p l 0 ∧
  st = ⟨[(0, .pd (.slice (rows AMatch.pd l))), (1, .fn g caps), (7, int l.length), (8, int i)], bs, [], .no⟩) l.length _ (Weak.refl _ _) ⟨0, rfl, Nat.zero_le _, rfl, rfl⟩ ?_
 rintro k st ⟨i, rfl, hi, hr, rfl⟩
 by_cases hlt : i < l.length
 ·obtain ⟨x, hx⟩ := at_lt hlt
  have hlt' : ((i : Int) < (l.length : Int)) = True := eq_true (by omega)
  have hw := i64_succ (show i < 1000000000 by omega)
  rw [drop_at hx, lidx] at hr
  simp only [go_sem, contS_seq, simprocAttr, hlt', rows_get hx]
  refine (hp x (List.mem_of_getElem? hx)).callW he _ (idr bs) hc.ok (hc.args (by rfl)) hc.see ?_
  rintro d rfl
  simp only [go_sem, contS_seq, simprocAttr]
  refine Gif.mk (fun h => ?_) (fun h => ?_)
  ·rw [if_pos h] at hr
   simp only [retK, resD, retL, oneD, simprocAttr, Tryz.results219]
   exact ⟨_, rfl, rfl, congrArg int hr⟩
  ·rw [if_neg (by simp [h])] at hr
   simp only [go_sem, contS_seq, simprocAttr, hw]
   refine ⟨l.length - (i + 1), _, ?_, ?_, i + 1, rfl, ?_, hr, rfl⟩
   ·omega
   ·exact Weak.less (by simp [lessL, lk]) (lessL_refl hc.nd) (by simp [lessL, lk]) rfl
   ·omega
 ·have hlt' : ((i : Int) < (l.length : Int)) = False := eq_false (by omega)
  rw [List.drop_eq_nil_of_le (by omega), lidx] at hr
  simp only [go_sem, contS_seq, simprocAttr, rows_len, hlt']
  simp only [retK, resD, retL, oneD, simprocAttr, Tryz.results219]
  exact ⟨_, rfl, rfl, congrArg int hr⟩

theorem IndexFunc_Pair (p : APair → Bool) (g : FuncId) (he : Enters Tryz.prog g) (caps : List (Nat × Nat)) (bs : List (Nat × List D)) (hc : Cl bs caps) (l : List APair) (hl : l.length ≤ 1000000)
 (hp : ∀ x ∈ l, PureB Tryz.prog g (APair.d x :: capD caps) bs (fun d => d = bln (p x))) :
 PureB Tryz.prog 213 [.pd (.slice (rows APair.pd l)), .fn g caps] bs (fun d => d = int (lidx p l 0)) := by
 refine pureB_of_run follows an_zdecl Tryz.func213 rfl ok_zdecl.1 ok_zdecl.2 (by simp [Tryz.ntmps213]) ?_
 rw [run_start]
 simp only [ac_zdecl, go_sem, contS_seq, simprocAttr, rows_len]
 refine loopS (fun k st => ∃ i : Nat, k = l.length - i ∧ i ≤ l.length ∧ lidx p (l.drop i) i = lidx p l 0 ∧
  st = ⟨[(0, .pd (.slice (rows APair.pd l))), (1, .fn g caps), (7, int l.length), (8, int i)], bs, [], .no⟩) l.length _ (Weak.refl _ _) ⟨0, rfl, Nat.zero_le _, rfl, rfl⟩ ?_
 rintro k st ⟨i, rfl, hi, hr, rfl⟩
 by_cases hlt : i < l.length
 ·obtain ⟨x, hx⟩ := at_lt hlt
  have hlt' : ((i : Int) < (l.length : Int)) = True := eq_true (by omega)
  have hw := i64_succ (show i < 1000000000 by omega)
  rw [drop_at hx, lidx] at hr
  simp only [go_sem, contS_seq, simprocAttr, hlt', rows_get hx]
  refine (hp x (List.mem_of_getElem? hx)).callW he _ (idr bs) hc.ok (hc.args (by rfl)) hc.see ?_
  rintro d rfl
  simp only [go_sem, contS_seq, simprocAttr]
  refine Gif.mk (fun h => ?_) (fun h => ?_)
  ·rw [if_pos h] at hr
   simp only [retK, resD, retL, oneD, simprocAttr, Tryz.results213]
   exact ⟨_, rfl, rfl, congrArg int hr⟩
  ·rw [if_neg (by simp [h])] at hr
   simp only [go_sem, contS_seq, simprocAttr, hw]
   refine ⟨l.length - (i + 1), _, ?_, ?_, i + 1, rfl, ?_, hr, rfl⟩
   ·omega
   ·exact Weak.less (by simp [lessL, lk]) (lessL_refl hc.nd) (by simp [lessL, lk]) rfl
   ·omega
 ·have hlt' : ((i : Int) < (l.length : Int)) = False := eq_false (by omega)
  rw [List.drop_eq_nil_of_le (by omega), lidx] at hr
  simp only [go_sem, contS_seq, simprocAttr, rows_len, hlt']
  simp only [retK, resD, retL, oneD, simprocAttr, Tryz.results213]
  exact ⟨_, rfl, rfl, congrArg int hr⟩

theorem IndexFunc_Filter (p : AFilter → Bool) (g : FuncId) (he : Enters Tryz.prog g) (caps : List (Nat × Nat)) (bs : List (Nat × List D)) (hc : Cl bs caps) (l : List AFilter) (hl : l.length ≤ 1000000)
 (hp : ∀ x ∈ l, PureB Tryz.prog g (AFilter.d x :: capD caps) bs (fun d => d = bln (p x))) :
 PureB Tryz.prog 228 [.pd (.slice (rows AFilter.pd l)), .fn g caps] bs (fun d => d = int (lidx p l 0)) := by
 refine pureB_of_run follows an_zwgkv Tryz.func228 rfl ok_zwgkv.1 ok_zwgkv.2 (by simp [Tryz.ntmps228]) ?_
 rw [run_start]
 simp only [ac_zwgkv, go_sem, contS_seq, simprocAttr, rows_len]
 refine loopS (fun k st => ∃ i : Nat, k = l.length - i ∧ i ≤ l.length ∧ lidx p (l.drop i) i = lidx p l 0 ∧
  st = ⟨[(0, .pd (.slice (rows AFilter.pd l))), (1, .fn g caps), (7, int l.length), (8, int i)], bs, [], .no⟩) l.length _ (Weak.refl _ _) ⟨0, rfl, Nat.zero_le _, rfl, rfl⟩ ?_
 rintro k st ⟨i, rfl, hi, hr, rfl⟩
 by_cases hlt : i < l.length
 ·obtain ⟨x, hx⟩ := at_lt hlt
  have hlt' : ((i : Int) < (l.length : Int)) = True := eq_true (by omega)
  have hw := i64_succ (show i < 1000000000 by omega)
  rw [drop_at hx, lidx] at hr
  simp only [go_sem, contS_seq, simprocAttr, hlt', rows_get hx]
  refine (hp x (List.mem_of_getElem? hx)).callW he _ (idr bs) hc.ok (hc.args (by rfl)) hc.see ?_
  rintro d rfl
  simp only [go_sem, contS_seq, simprocAttr]
  refine Gif.mk (fun h => ?_) (fun h => ?_)
  ·rw [if_pos h] at hr
   simp only [retK, resD, retL, oneD, simprocAttr, Tryz.results228]
   exact ⟨_, rfl, rfl, congrArg int hr⟩
  ·rw [if_neg (by simp [h])] at hr
   simp only [go_sem, contS_seq, simprocAttr, hw]
   refine ⟨l.length - (i + 1), _, ?_, ?_, i + 1, rfl, ?_, hr, rfl⟩
   ·omega
   ·exact Weak.less (by simp [lessL, lk]) (lessL_refl hc.nd) (by simp [lessL, lk]) rfl
   ·omega
 ·have hlt' : ((i : Int) < (l.length : Int)) = False := eq_false (by omega)
  rw [List.drop_eq_nil_of_le (by omega), lidx] at hr
  simp only [go_sem, contS_seq, simprocAttr, rows_len, hlt']
  simp only [retK, resD, retL, oneD, simprocAttr, Tryz.results228]
  exact ⟨_, rfl, rfl, congrArg int hr⟩

theorem IndexFunc_Backend (p : ABackend → Bool) (g : FuncId) (he : Enters Tryz.prog g) (caps : List (Nat × Nat)) (bs : List (Nat × List D)) (hc : Cl bs caps) (l : List ABackend) (hl : l.length ≤ 1000000)
 (hp : ∀ x ∈ l, PureB Tryz.prog g (ABackend.d x :: capD caps) bs (fun d => d = bln (p x))) :
 PureB Tryz.prog 229 [.pd (.slice (rows ABackend.pd l)), .fn g caps] bs (fun d => d = int (lidx p l 0)) := by
 refine pureB_of_run follows an_zbcsd Tryz.func229 rfl ok_zbcsd.1 ok_zbcsd.2 (by simp [Tryz.ntmps229]) ?_
 rw [run_start]
 simp only [ac_zbcsd, go_sem, contS_seq, simprocAttr, rows_len]
 refine loopS (fun k st => ∃ i : Nat, k = l.length - i ∧ i ≤ l.length ∧ lidx p (l.drop i) i = lidx p l 0 ∧
  st = ⟨[(0, .pd (.slice (rows ABackend.pd l))), (1, .fn g caps), (7, int l.length), (8, int i)], bs, [], .no⟩) l.length _ (Weak.refl _ _) ⟨0, rfl, Nat.zero_le _, rfl, rfl⟩ ?_
 rintro k st ⟨i, rfl, hi, hr, rfl⟩
 by_cases hlt : i < l.length
 ·obtain ⟨x, hx⟩ := at_lt hlt
  have hlt' : ((i : Int) < (l.length : Int)) = True := eq_true (by omega)
  have hw := i64_succ (show i < 1000000000 by omega)
  rw [drop_at hx, lidx] at hr
  simp only [go_sem, contS_seq, simprocAttr, hlt', rows_get hx]
  refine (hp x (List.mem_of_getElem? hx)).callW he _ (idr bs) hc.ok (hc.args (by rfl)) hc.see ?_
  rintro d rfl
  simp only [go_sem, contS_seq, simprocAttr]
  refine Gif.mk (fun h => ?_) (fun h => ?_)
  ·rw [if_pos h] at hr
   simp only [retK, resD, retL, oneD, simprocAttr, Tryz.results229]
   exact ⟨_, rfl, rfl, congrArg int hr⟩
  ·rw [if_neg (by simp [h])] at hr
   simp only [go_sem, contS_seq, simprocAttr, hw]
   refine ⟨l.length - (i + 1), _, ?_, ?_, i + 1, rfl, ?_, hr, rfl⟩
   ·omega
   ·exact Weak.less (by simp [lessL, lk]) (lessL_refl hc.nd) (by simp [lessL, lk]) rfl
   ·omega
 ·have hlt' : ((i : Int) < (l.length : Int)) = False := eq_false (by omega)
  rw [List.drop_eq_nil_of_le (by omega), lidx] at hr
  simp only [go_sem, contS_seq, simprocAttr, rows_len, hlt']
  simp only [retK, resD, retL, oneD, simprocAttr, Tryz.results229]
  exact ⟨_, rfl, rfl, congrArg int hr⟩


theorem ContainsFunc_Side (p : ASide → Bool) (g : FuncId) (he : Enters Tryz.prog g) (caps : List (Nat × Nat)) (bs : List (Nat × List D)) (hc : Cl bs caps) (l : List ASide) (hl : l.length ≤ 1000000)
 (hp : ∀ x ∈ l, PureB Tryz.prog g (ASide.d x :: capD caps) bs (fun d => d = bln (p x))) :
 PureB Tryz.prog 159 [.pd (.slice (rows ASide.pd l)), .fn g caps] bs (fun d => d = bln (l.any p)) := by
 refine pureB_of_run follows an_zkgk0 Tryz.func159 rfl ok_zkgk0.1 ok_zkgk0.2 (by simp [Tryz.ntmps159]) ?_
 rw [run_start]
 simp only [ac_zkgk0, go_sem, contS_seq, simprocAttr, rows_len]
 refine (IndexFunc_Side p g he caps bs hc l hl hp).callW (enters_of Tryz.func202 rfl rfl) _ (idr bs) hc.ok hc.two hc.see ?_
 rintro d rfl
 simp only [go_sem, contS_seq, simprocAttr]
 simp only [retK, resD, retL, oneD, simprocAttr, Tryz.results159]
 exact ⟨_, rfl, rfl, congrArg bln (lidx_any p l)⟩

theorem ContainsFunc_int (p : Int → Bool) (g : FuncId) (he : Enters Tryz.prog g) (caps : List (Nat × Nat)) (bs : List (Nat × List D)) (hc : Cl bs caps) (l : List Int) (hl : l.length ≤ 1000000)
 (hp : ∀ x ∈ l, PureB Tryz.prog g (int x :: capD caps) bs (fun d => d = bln (p x))) :
 PureB Tryz.prog 133 [.pd (.slice (rows cInt l)), .fn g caps] bs (fun d => d = bln (l.any p)) := by
 refine pureB_of_run follows an_z2spj Tryz.func133 rfl ok_z2spj.1 ok_z2spj.2 (by simp [Tryz.ntmps133]) ?_
 rw [run_start]
 simp only [ac_z2spj, go_sem, contS_seq, simprocAttr, rows_len]
 refine (IndexFunc_int p g he caps bs hc l hl hp).callW (enters_of Tryz.func175 rfl rfl) _ (idr bs) hc.ok hc.two hc.see ?_
 rintro d rfl
 simp only [go_sem, contS_seq, simprocAttr]
 simp only [retK, resD, retL, oneD, simprocAttr, Tryz.results133]
 exact ⟨_, rfl, rfl, congrArg bln (lidx_any p l)⟩

theorem ContainsFunc_Listener (p : AListener → Bool) (g : FuncId) (he : Enters Tryz.prog g) (caps : List (Nat × Nat)) (bs : List (Nat × List D)) (hc : Cl bs caps) (l : List AListener) (hl : l.length ≤ 1000000)
 (hp : ∀ x ∈ l, PureB Tryz.prog g (AListener.d x :: capD caps) bs (fun d => d = bln (p x))) :
 PureB Tryz.prog 138 [.pd (.slice (rows AListener.pd l)), .fn g caps] bs (fun d => d = bln (l.any p)) := by
 refine pureB_of_run follows an_zosgm Tryz.func138 rfl ok_zosgm.1 ok_zosgm.2 (by simp [Tryz.ntmps138]) ?_
 rw [run_start]
 simp only [ac_zosgm, go_sem, contS_seq, simprocAttr, rows_len]
 refine (IndexFunc_Listener p g he caps bs hc l hl hp).callW (enters_of Tryz.func178 rfl rfl) _ (idr bs) hc.ok hc.two hc.see ?_
 rintro d rfl
 simp only [go_sem, contS_seq, simprocAttr]
 simp only [retK, resD, retL, oneD, simprocAttr, Tryz.results138]
 exact ⟨_, rfl, rfl, congrArg bln (lidx_any p l)⟩

theorem ContainsFunc_Need (p : ANeed → Bool) (g : FuncId) (he : Enters Tryz.prog g) (caps : List (Nat × Nat)) (bs : List (Nat × List D)) (hc : Cl bs caps) (l : List ANeed) (hl : l.length ≤ 1000000)
 (hp : ∀ x ∈ l, PureB Tryz.prog g (ANeed.d x :: capD caps) bs (fun d => d = bln (p x))) :
 PureB Tryz.prog 75 [.pd (.slice (rows ANeed.pd l)), .fn g caps] bs (fun d => d = bln (l.any p)) := by
 refine pureB_of_run follows an_zy4fu Tryz.func75 rfl ok_zy4fu.1 ok_zy4fu.2 (by simp [Tryz.ntmps75]) ?_
 rw [run_start]
 simp only [ac_zy4fu, go_sem, contS_seq, simprocAttr, rows_len]
 refine (IndexFunc_Need p g he caps bs hc l hl hp).callW (enters_of Tryz.func131 rfl rfl) _ (idr bs) hc.ok hc.two hc.see ?_
 rintro d rfl
 simp only [go_sem, contS_seq, simprocAttr]
 simp only [retK, resD, retL, oneD, simprocAttr, Tryz.results75]
 exact ⟨_, rfl, rfl, congrArg bln (lidx_any p l)⟩

theorem ContainsFunc_Parent (p : AParent → Bool) (g : FuncId) (he : Enters Tryz.prog g) (caps : List (Nat × Nat)) (bs : List (Nat × List D)) (hc : Cl bs caps) (l : List AParent) (hl : l.length ≤ 1000000)
 (hp : ∀ x ∈ l, PureB Tryz.prog g (AParent.d x :: capD caps) bs (fun d => d = bln (p x))) :
 PureB Tryz.prog 142 [.pd (.slice (rows AParent.pd l)), .fn g caps] bs (fun d => d = bln (l.any p)) := by
 refine pureB_of_run follows an_zic3s Tryz.func142 rfl ok_zic3s.1 ok_zic3s.2 (by simp [Tryz.ntmps142]) ?_
 rw [run_start]
 simp only [ac_zic3s, go_sem, contS_seq, simprocAttr, rows_len]
 refine (IndexFunc_Parent p g he caps bs hc l hl hp).callW (enters_of Tryz.func179 rfl rfl) _ (idr bs) hc.ok hc.two hc.see ?_
 rintro d rfl
 simp only [go_sem, contS_seq, simprocAttr]
 simp only [retK, resD, retL, oneD, simprocAttr, Tryz.results142]
 exact ⟨_, rfl, rfl, congrArg bln (lidx_any p l)⟩

theorem ContainsFunc_string (p : ByteArray → Bool) (g : FuncId) (he : Enters Tryz.prog g) (caps : List (Nat × Nat)) (bs : List (Nat × List D)) (hc : Cl bs caps) (l : List ByteArray) (hl : l.length ≤ 1000000)
 (hp : ∀ x ∈ l, PureB Tryz.prog g (str x :: capD caps) bs (fun d => d = bln (p x))) :
 PureB Tryz.prog 144 [.pd (.slice (rows cStr l)), .fn g caps] bs (fun d => d = bln (l.any p)) := by
 refine pureB_of_run follows an_zyx5 Tryz.func144 rfl ok_zyx5.1 ok_zyx5.2 (by simp [Tryz.ntmps144]) ?_
 rw [run_start]
 simp only [ac_zyx5, go_sem, contS_seq, simprocAttr, rows_len]
 refine (IndexFunc_string p g he caps bs hc l hl hp).callW (enters_of Tryz.func180 rfl rfl) _ (idr bs) hc.ok hc.two hc.see ?_
 rintro d rfl
 simp only [go_sem, contS_seq, simprocAttr]
 simp only [retK, resD, retL, oneD, simprocAttr, Tryz.results144]
 exact ⟨_, rfl, rfl, congrArg bln (lidx_any p l)⟩

theorem ContainsFunc_Rule (p : ARule → Bool) (g : FuncId) (he : Enters Tryz.prog g) (caps : List (Nat × Nat)) (bs : List (Nat × List D)) (hc : Cl bs caps) (l : List ARule) (hl : l.length ≤ 1000000)
 (hp : ∀ x ∈ l, PureB Tryz.prog g (ARule.d x :: capD caps) bs (fun d => d = bln (p x))) :
 PureB Tryz.prog 149 [.pd (.slice (rows ARule.pd l)), .fn g caps] bs (fun d => d = bln (l.any p)) := by
 refine pureB_of_run follows an_zwd90 Tryz.func149 rfl ok_zwd90.1 ok_zwd90.2 (by simp [Tryz.ntmps149]) ?_
 rw [run_start]
 simp only [ac_zwd90, go_sem, contS_seq, simprocAttr, rows_len]
 refine (IndexFunc_Rule p g he caps bs hc l hl hp).callW (enters_of Tryz.func182 rfl rfl) _ (idr bs) hc.ok hc.two hc.see ?_
 rintro d rfl
 simp only [go_sem, contS_seq, simprocAttr]
 simp only [retK, resD, retL, oneD, simprocAttr, Tryz.results149]
 exact ⟨_, rfl, rfl, congrArg bln (lidx_any p l)⟩

theorem ContainsFunc_Match (p : AMatch → Bool) (g : FuncId) (he : Enters Tryz.prog g) (caps : List (Nat × Nat)) (bs : List (Nat × List D)) (hc : Cl bs caps) (l : List AMatch) (hl : l.length ≤ 1000000)
 (hp : ∀ x ∈ l, PureB Tryz.prog g (AMatch.d x :: capD caps) bs (fun d => d = bln (p x))) :
 PureB Tryz.prog 183 [.pd (.slice (rows AMatch.pd l)), .fn g caps] bs (fun d => d = bln (l.any p)) := by
 refine pureB_of_run follows an_zmyh8 Tryz.func183 rfl ok_zmyh8.1 ok_zmyh8.2 (by simp [Tryz.ntmps183]) ?_
 rw [run_start]
 simp only [ac_zmyh8, go_sem, contS_seq, simprocAttr, rows_len]
 refine (IndexFunc_Match p g he caps bs hc l hl hp).callW (enters_of Tryz.func219 rfl rfl) _ (idr bs) hc.ok hc.two hc.see ?_
 rintro d rfl
 simp only [go_sem, contS_seq, simprocAttr]
 simp only [retK, resD, retL, oneD, simprocAttr, Tryz.results183]
 exact ⟨_, rfl, rfl, congrArg bln (lidx_any p l)⟩

theorem ContainsFunc_Pair (p : APair → Bool) (g : FuncId) (he : Enters Tryz.prog g) (caps : List (Nat × Nat)) (bs : List (Nat × List D)) (hc : Cl bs caps) (l : List APair) (hl : l.length ≤ 1000000)
 (hp : ∀ x ∈ l, PureB Tryz.prog g (APair.d x :: capD caps) bs (fun d => d = bln (p x))) :
 PureB Tryz.prog 190 [.pd (.slice (rows APair.pd l)), .fn g caps] bs (fun d => d = bln (l.any p)) := by
 refine pureB_of_run follows an_zr7hm Tryz.func190 rfl ok_zr7hm.1 ok_zr7hm.2 (by simp [Tryz.ntmps190]) ?_
 rw [run_start]
 simp only [ac_zr7hm, go_sem, contS_seq, simprocAttr, rows_len]
 refine (IndexFunc_Pair p g he caps bs hc l hl hp).callW (enters_of Tryz.func213 rfl rfl) _ (idr bs) hc.ok hc.two hc.see ?_
 rintro d rfl
 simp only [go_sem, contS_seq, simprocAttr]
 simp only [retK, resD, retL, oneD, simprocAttr, Tryz.results190]
 exact ⟨_, rfl, rfl, congrArg bln (lidx_any p l)⟩

theorem ContainsFunc_Filter (p : AFilter → Bool) (g : FuncId) (he : Enters Tryz.prog g) (caps : List (Nat × Nat)) (bs : List (Nat × List D)) (hc : Cl bs caps) (l : List AFilter) (hl : l.length ≤ 1000000)
 (hp : ∀ x ∈ l, PureB Tryz.prog g (AFilter.d x :: capD caps) bs (fun d => d = bln (p x))) :
 PureB Tryz.prog 198 [.pd (.slice (rows AFilter.pd l)), .fn g caps] bs (fun d => d = bln (l.any p)) := by
 refine pureB_of_run follows an_zi3lv Tryz.func198 rfl ok_zi3lv.1 ok_zi3lv.2 (by simp [Tryz.ntmps198]) ?_
 rw [run_start]
 simp only [ac_zi3lv, go_sem, contS_seq, simprocAttr, rows_len]
 refine (IndexFunc_Filter p g he caps bs hc l hl hp).callW (enters_of Tryz.func228 rfl rfl) _ (idr bs) hc.ok hc.two hc.see ?_
 rintro d rfl
 simp only [go_sem, contS_seq, simprocAttr]
 simp only [retK, resD, retL, oneD, simprocAttr, Tryz.results198]
 exact ⟨_, rfl, rfl, congrArg bln (lidx_any p l)⟩

theorem ContainsFunc_Backend (p : ABackend → Bool) (g : FuncId) (he : Enters Tryz.prog g) (caps : List (Nat × Nat)) (bs : List (Nat × List D)) (hc : Cl bs caps) (l : List ABackend) (hl : l.length ≤ 1000000)
 (hp : ∀ x ∈ l, PureB Tryz.prog g (ABackend.d x :: capD caps) bs (fun d => d = bln (p x))) :
 PureB Tryz.prog 199 [.pd (.slice (rows ABackend.pd l)), .fn g caps] bs (fun d => d = bln (l.any p)) := by
 refine pureB_of_run follows an_z7rwg Tryz.func199 rfl ok_z7rwg.1 ok_z7rwg.2 (by simp [Tryz.ntmps199]) ?_
 rw [run_start]
 simp only [ac_z7rwg, go_sem, contS_seq, simprocAttr, rows_len]
 refine (IndexFunc_Backend p g he caps bs hc l hl hp).callW (enters_of Tryz.func229 rfl rfl) _ (idr bs) hc.ok hc.two hc.see ?_
 rintro d rfl
 simp only [go_sem, contS_seq, simprocAttr]
 simp only [retK, resD, retL, oneD, simprocAttr, Tryz.results199]
 exact ⟨_, rfl, rfl, congrArg bln (lidx_any p l)⟩

theorem ContainsP_Need (p : ANeed → Bool) (f : FuncId) (he : Enters Tryz.prog f) (l : List ANeed) (hl : l.length ≤ 1000000) (hp : ∀ x ∈ l, Pure Tryz.prog f [ANeed.d x] (fun d => d = bln (p x))) :
 Pure Tryz.prog 75 [.pd (.slice (rows ANeed.pd l)), .fn f []] (fun d => d = bln (l.any p)) :=
 (ContainsFunc_Need p f he [] [] (Cl.of rfl rfl rfl rfl rfl) l hl (fun x hx => (hp x hx).pureB rfl)).pure

theorem ContainsP_string (p : ByteArray → Bool) (f : FuncId) (he : Enters Tryz.prog f) (l : List ByteArray) (hl : l.length ≤ 1000000) (hp : ∀ x ∈ l, Pure Tryz.prog f [str x] (fun d => d = bln (p x))) :
 Pure Tryz.prog 144 [.pd (.slice (rows cStr l)), .fn f []] (fun d => d = bln (l.any p)) :=
 (ContainsFunc_string p f he [] [] (Cl.of rfl rfl rfl rfl rfl) l hl (fun x hx => (hp x hx).pureB rfl)).pure

theorem ContainsP_Pair (p : APair → Bool) (f : FuncId) (he : Enters Tryz.prog f) (l : List APair) (hl : l.length ≤ 1000000) (hp : ∀ x ∈ l, Pure Tryz.prog f [APair.d x] (fun d => d = bln (p x))) :
 Pure Tryz.prog 190 [.pd (.slice (rows APair.pd l)), .fn f []] (fun d => d = bln (l.any p)) :=
 (ContainsFunc_Pair p f he [] [] (Cl.of rfl rfl rfl rfl rfl) l hl (fun x hx => (hp x hx).pureB rfl)).pure

end Go.Proofs.YtcnhcamimcpinaaGreatDoor


