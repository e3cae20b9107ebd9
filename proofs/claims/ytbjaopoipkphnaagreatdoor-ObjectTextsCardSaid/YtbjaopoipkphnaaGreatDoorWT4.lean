/- Texts of the prover's, joined: D3 D4 D5 D2 D6 DF DB R1 R2 R3 R4 BV F1 F2. -/
import Derived.Test.YtbjaopoipkphnaaGreatDoorWT3
import Derived.Test.YtbjaopoipkphnaaGreatDoorProg
import Derived.KernelRfl
import Derived.ChangeArms
import Derived.Test.YtbjaopoipkphnaaGreatDoorRows
import Derived.WalkKit
import Derived.ProofKit
import Derived.OpenShut
import Derived.LaidMore
import Derived.Lay
import Derived.Carry
import Derived.SevenTiedAt
import Derived.ChangeOld
import Derived.Below
import Derived.Stop.Joined
import Derived.ChangeMaps5
import Derived.Lib.Bytealg
import Derived.Lib.Walk
import Derived.BigCall
import Derived.BigGuard
import Derived.Deep.Draws

namespace Go.Proofs.YtbjaopoipkphnaaGreatDoor
open Go

def ac_zsl5t : AC := (sr [oo 2 (.mv (cq false))] [0] (sr [mq 3 0,oo 4 (.bin .geq (tp 3) (.const (.int .i32 97))),mq 5 4,og 5 true 6 (.mv (tp 0)),og 5 true 7 (.bin .leq (tp 6) (.const (.int .i32 122))),oo 8 (.pick (tp 5) (tp 7) (cq false)),mq 9 8,og 9 false 10 (.mv (tp 0)),og 9 false 11 (.bin .geq (tp 10) (.const (.int .i32 48))),og 9 false 12 (.mv (tp 11)),og 12 true 13 (.mv (tp 0)),og 12 true 14 (.bin .leq (tp 13) (.const (.int .i32 57))),og 9 false 15 (.pick (tp 12) (tp 14) (cq false)),oo 16 (.pick (tp 9) (cq true) (tp 15)),mq 17 16,og 17 false 18 (.mv (tp 0)),og 17 false 19 (.bin .eql (tp 18) (.const (.int .i32 45))),oo 20 (.pick (tp 17) (cq true) (tp 19)),mq 2 20] [2] .ret))
def an_zsl5t : Ann := ann (List.range 2) ac_zsl5t
theorem ok_zsl5t : okd Tryz.prog an_zsl5t ac_zsl5t Tryz.f120 := ⟨by kernel_rfl, by kernel_rfl⟩

def ac_zmcx0 : AC := (sr [oo 2 (.mv (cq false))] [0] (sr [mq 3 0,oo 4 (.call 120 [tp 3]),oo 5 (.un .not (tp 4)),mq 2 5] [2] .ret))
def an_zmcx0 : Ann := ann (List.range 2) ac_zmcx0
theorem ok_zmcx0 : okd Tryz.prog an_zmcx0 ac_zmcx0 Tryz.f119 := ⟨by kernel_rfl, by kernel_rfl⟩

def ac_zkca0 : AC := (sr [oo 6 (.mv (ci 0))] [0,1,2] (.seq (sr [mq 9 0,oo 10 (.srange (tp 9))] [1,2,10] (.block 0 (.loop (sr [oo 11 (.snext (tp 10)),oo 12 (.extract (tp 11) 0)] [1,2,10,11,12] (.seq (.cond (tp 12) .skip (.exit 0)) (.block 1 (sr [oo 13 (.extract (tp 11) 1),oo 14 (.extract (tp 11) 2),mq 7 13,mq 8 14] [1,2,7,8,10] (sr [mq 15 1,mq 16 8,oo 17 (.callv (tp 15) [tp 16]),mq 18 2,oo 19 (.binB false (tp 17) (tp 18))] [1,2,7,10,19] (.cond (tp 19) (sr [mq 20 7,mq 6 20] [6] .ret) .skip))))))))) (sr [oo 6 (.mv (ci (-1)))] [6] .ret)))
def an_zkca0 : Ann := ann (List.range 7) ac_zkca0
theorem ok_zkca0 : okd Tryz.prog an_zkca0 ac_zkca0 Tryz.f166 := ⟨by kernel_rfl, by kernel_rfl⟩

def ac_zgrrf : AC := (sr [oo 4 (.mv (ci 0))] [0,1] (sr [mq 5 0,mq 6 1,oo 7 (.call 166 [tp 5,tp 6,cq true]),mq 4 7] [4] .ret))
def an_zgrrf : Ann := ann (List.range 2) ac_zgrrf
theorem ok_zgrrf : okd Tryz.prog an_zgrrf ac_zgrrf Tryz.f121 := ⟨by kernel_rfl, by kernel_rfl⟩

def ac_zovze : AC := (sr [oo 2 (.mv (cq false))] [0] (sr [oo 3 (.mv (.func 119))] [0,3] (sr [mq 4 0,oo 5 (.bin .neq (tp 4) (.const (.string ⟨#[]⟩))),mq 6 5,og 6 true 7 (.mv (tp 0)),og 6 true 8 (.len (tp 7) true),og 6 true 9 (.bin .leq (tp 8) (ci 20)),oo 10 (.pick (tp 6) (tp 9) (cq false)),mq 11 10,og 11 true 12 (.mv (tp 0)),og 11 true 13 (.mv (tp 3)),og 11 true 14 (.call 121 [tp 12,tp 13]),og 11 true 15 (.bin .lss (tp 14) (ci 0)),oo 16 (.pick (tp 11) (tp 15) (cq false)),mq 17 16,og 17 true 18 (.mv (tp 0)),og 17 true 19 (.idxS (tp 18) (ci 0)),og 17 true 20 (.bin .neq (tp 19) (.const (.int .u8 45))),oo 21 (.pick (tp 17) (tp 20) (cq false)),mq 22 21,og 22 true 23 (.mv (tp 0)),og 22 true 24 (.mv (tp 0)),og 22 true 25 (.len (tp 24) true),og 22 true 26 (.bin .sub (tp 25) (ci 1)),og 22 true 27 (.idxS (tp 23) (tp 26)),og 22 true 28 (.bin .neq (tp 27) (.const (.int .u8 45))),oo 29 (.pick (tp 22) (tp 28) (cq false)),mq 2 29] [2] .ret)))
def an_zovze : Ann := ann (List.range 3) ac_zovze
theorem ok_zovze : okd Tryz.prog an_zovze ac_zovze Tryz.f71 := ⟨by kernel_rfl, by kernel_rfl⟩

def ac_z89f : AC := (sr [oo 4 (.mv (ci 0))] [0,1] (sr [mq 5 0,mq 6 1,oo 7 (.call 207 [tp 5,tp 6]),mq 4 7] [4] .ret))
def an_z89f : Ann := ann (List.range 2) ac_z89f
theorem ok_z89f : okd Tryz.prog an_z89f ac_z89f Tryz.f210 := ⟨by kernel_rfl, by kernel_rfl⟩

def ac_zn6ys : AC := (sr [oo 4 (.mv (ci 0))] [0,1] (sr [mq 14 1,oo 15 (.len (tp 14) true),mq 5 15] [0,1,5] (.seq (.block 0 (sr [mq 17 5,oo 18 (.bin .eql (tp 17) (ci 0)),mq 19 18,og 19 false 20 (.mv (tp 1)),og 19 false 21 (.mv (tp 0)),og 19 false 22 (.bin .eql (tp 20) (tp 21)),oo 23 (.pick (tp 19) (cq true) (tp 22)),mq 16 23] [0,1,5,16] (.cond (tp 16) (sr [oo 4 (.mv (ci 0))] [4] .ret) (sr [mq 25 5,oo 26 (.bin .eql (tp 25) (ci 1)),mq 24 26] [0,1,5,24] (.cond (tp 24) (sr [mq 27 0,mq 28 1,oo 29 (.idxS (tp 28) (ci 0)),oo 30 (.call 231 [tp 27,tp 29]),mq 4 30] [4] .ret) (sr [mq 32 5,mq 33 0,oo 34 (.len (tp 33) true),oo 35 (.bin .geq (tp 32) (tp 34)),mq 31 35] [0,1,5,31] (.cond (tp 31) (sr [oo 4 (.mv (ci (-1)))] [4] .ret) (sr [mq 37 5,oo 38 (.load none (.global 0)),oo 39 (.bin .leq (tp 37) (tp 38)),mq 40 39,og 40 true 41 (.mv (tp 0)),og 40 true 42 (.len (tp 41) true),og 40 true 43 (.bin .leq (tp 42) (ci 64)),oo 44 (.pick (tp 40) (tp 43) (cq false)),mq 36 44] [0,1,5,36] (.cond (tp 36) (sr [mq 45 0,mq 46 1,oo 47 (.call 232 [tp 45,tp 46]),mq 4 47] [4] .ret) .skip))))))))) (sr [mq 48 1,oo 49 (.idxS (tp 48) (ci 0)),mq 6 49] [0,1,5,6] (sr [mq 50 1,oo 51 (.idxS (tp 50) (ci 1)),mq 7 51] [0,1,5,6,7] (sr [oo 8 (.mv (ci 0))] [0,1,5,6,7,8] (sr [mq 52 0,oo 53 (.len (tp 52) true),mq 54 5,oo 55 (.bin .sub (tp 53) (tp 54)),oo 56 (.bin .add (tp 55) (ci 1)),mq 9 56] [0,1,5,6,7,8,9] (sr [oo 10 (.mv (ci 0))] [0,1,5,6,7,8,9,10] (.seq (.block 1 (.loop (.seq (sr [mq 57 8,mq 58 9,oo 59 (.bin .lss (tp 57) (tp 58))] [0,1,5,6,7,8,9,10,59] (.cond (tp 59) .skip (.exit 1))) (.block 2 (.seq (sr [mq 60 0,mq 61 8,oo 62 (.idxS (tp 60) (tp 61)),mq 63 6,oo 64 (.bin .neq (tp 62) (tp 63))] [0,1,5,6,7,8,9,10,64] (.cond (tp 64) (sr [mq 65 0,mq 66 8,oo 67 (.bin .add (tp 66) (ci 1)),mq 68 9,oo 69 (.slcS (tp 65) (some (tp 67)) (some (tp 68))),mq 70 6,oo 71 (.call 231 [tp 69,tp 70]),mq 11 71] [0,1,5,6,7,8,9,10,11] (.seq (sr [mq 72 11,oo 73 (.bin .lss (tp 72) (ci 0))] [0,1,5,6,7,8,9,10,11,73] (.cond (tp 73) (sr [oo 4 (.mv (ci (-1)))] [4] .ret) .skip)) (.region [mq 74 8,mq 75 11,oo 76 (.bin .add (tp 75) (ci 1)),oo 77 (.bin .add (tp 74) (tp 76)),mq 8 77] (some [0,1,5,6,7,8,9,10])))) .skip)) (.seq (sr [mq 78 0,mq 79 8,oo 80 (.bin .add (tp 79) (ci 1)),oo 81 (.idxS (tp 78) (tp 80)),mq 82 7,oo 83 (.bin .eql (tp 81) (tp 82)),mq 84 83,og 84 true 85 (.mv (tp 0)),og 84 true 86 (.mv (tp 8)),og 84 true 87 (.mv (tp 8)),og 84 true 88 (.mv (tp 5)),og 84 true 89 (.bin .add (tp 87) (tp 88)),og 84 true 90 (.slcS (tp 85) (some (tp 86)) (some (tp 89))),og 84 true 91 (.mv (tp 1)),og 84 true 92 (.bin .eql (tp 90) (tp 91)),oo 93 (.pick (tp 84) (tp 92) (cq false))] [0,1,5,6,7,8,9,10,93] (.cond (tp 93) (sr [mq 94 8,mq 4 94] [4] .ret) .skip)) (sr [mq 95 8,oo 96 (.bin .add (tp 95) (ci 1)),mq 8 96] [0,1,5,6,7,8,9,10] (sr [mq 97 10,oo 98 (.bin .add (tp 97) (ci 1)),mq 10 98] [0,1,5,6,7,8,9,10] (sr [mq 99 5,oo 100 (.load none (.global 0)),oo 101 (.bin .leq (tp 99) (tp 100)),mq 102 101,og 102 true 103 (.mv (tp 10)),og 102 true 104 (.mv (tp 8)),og 102 true 105 (.call 233 [tp 104]),og 102 true 106 (.bin .gtr (tp 103) (tp 105)),oo 107 (.pick (tp 102) (tp 106) (cq false))] [0,1,5,6,7,8,9,10,107] (.cond (tp 107) (sr [mq 108 0,mq 109 8,oo 110 (.slcS (tp 108) (some (tp 109)) none),mq 111 1,oo 112 (.call 232 [tp 110,tp 111]),mq 12 112] [8,12] (.seq (sr [mq 113 12,oo 114 (.bin .geq (tp 113) (ci 0))] [8,12,114] (.cond (tp 114) (sr [mq 115 12,mq 116 8,oo 117 (.bin .add (tp 115) (tp 116)),mq 4 117] [4] .ret) .skip)) (sr [oo 4 (.mv (ci (-1)))] [4] .ret))) (sr [mq 118 5,oo 119 (.load none (.global 0)),oo 120 (.bin .gtr (tp 118) (tp 119)),mq 121 120,og 121 true 122 (.mv (tp 10)),og 121 true 123 (.mv (tp 8)),og 121 true 124 (.bin .shr (tp 123) (.const (.int .u64 4))),og 121 true 125 (.bin .add (ci 4) (tp 124)),og 121 true 126 (.bin .geq (tp 122) (tp 125)),oo 127 (.pick (tp 121) (tp 126) (cq false)),mq 128 127,og 128 true 129 (.mv (tp 8)),og 128 true 130 (.mv (tp 9)),og 128 true 131 (.bin .lss (tp 129) (tp 130)),oo 132 (.pick (tp 128) (tp 131) (cq false))] [0,1,5,6,7,8,9,10,132] (.cond (tp 132) (sr [mq 133 0,mq 134 8,oo 135 (.slcS (tp 133) (some (tp 134)) none),mq 136 1,oo 137 (.call 234 [tp 135,tp 136]),mq 13 137] [8,13] (.seq (sr [mq 138 13,oo 139 (.bin .lss (tp 138) (ci 0))] [8,13,139] (.cond (tp 139) (sr [oo 4 (.mv (ci (-1)))] [4] .ret) .skip)) (sr [mq 140 8,mq 141 13,oo 142 (.bin .add (tp 140) (tp 141)),mq 4 142] [4] .ret))) .skip)))))))))))) (sr [oo 4 (.mv (ci (-1)))] [4] .ret))))))))))
def an_zn6ys : Ann := ann (List.range 36) ac_zn6ys
theorem ok_zn6ys : okd Tryz.prog an_zn6ys ac_zn6ys Tryz.f207 := ⟨by kernel_rfl, by kernel_rfl⟩

def ac_zjcnn : AC := (.seq (sr [lq 9 1,oo 10 (.len (tp 9) true),oo 11 (.bin .eql (tp 10) (ci 0))] [0,1,2,3,11] (.cond (tp 11) (.seq (.block 0 (.loop (.seq (sr [lq 12 2,oo 13 (.len (tp 12) true),oo 14 (.bin .gtr (tp 13) (ci 0))] [0,2,14] (.cond (tp 14) .skip (.exit 0))) (.block 1 (sr [lq 16 2,oo 17 (.call 209 [tp 16]),mq 15 17,oo 18 (.extract (tp 15) 0),oo 19 (.extract (tp 15) 1),mq 5 18,mq 6 19] [0,2,6] (.seq (sr [mq 20 0,lq 21 2,mq 22 6,oo 23 (.slcS (tp 21) none (some (tp 22))),oo 24 (.callv (tp 20) [tp 23]),oo 25 (.un .not (tp 24))] [0,2,6,25] (.cond (tp 25) .ret .skip)) (.region [lq 26 2,mq 27 6,oo 28 (.slcS (tp 26) (some (tp 27)) none),.mk none none (.store 1 (tp 2) (tp 28))] (some [0,2])))))))) .ret) .skip)) (.seq (.block 2 (.loop (.block 3 (sr [lq 29 2,lq 30 1,oo 31 (.call 210 [tp 29,tp 30]),mq 7 31] [0,1,2,3,7] (.seq (sr [mq 32 7,oo 33 (.bin .lss (tp 32) (ci 0))] [0,1,2,3,7,33] (.cond (tp 33) (.exit 2) .skip)) (sr [lq 34 2,mq 35 7,lq 36 3,oo 37 (.bin .add (tp 35) (tp 36)),oo 38 (.slcS (tp 34) none (some (tp 37))),mq 8 38] [0,1,2,3,7,8] (.seq (sr [mq 39 0,mq 40 8,oo 41 (.callv (tp 39) [tp 40]),oo 42 (.un .not (tp 41))] [0,1,2,3,7,42] (.cond (tp 42) .ret .skip)) (.region [lq 43 2,mq 44 7,lq 45 1,oo 46 (.len (tp 45) true),oo 47 (.bin .add (tp 44) (tp 46)),oo 48 (.slcS (tp 43) (some (tp 47)) none),.mk none none (.store 1 (tp 2) (tp 48))] (some [0,1,2,3]))))))))) (.region [mq 49 0,lq 50 2,oo 51 (.callv (tp 49) [tp 50])] (some []))))
def an_zjcnn : Ann := ann (List.range 11) ac_zjcnn
theorem ok_zjcnn : okd Tryz.prog an_zjcnn ac_zjcnn Tryz.f208 := ⟨by kernel_rfl, by kernel_rfl⟩

def ac_z70r5 : AC := (sr [oo 3 (.box 9 (tp 0)),oo 4 (.box 9 (tp 1)),oo 5 (.box 3 (tp 2)),oo 6 (.mv (.const .nilFunc))] [3,4,5] (sr [oo 7 (.mkfn 208 [tp 4,tp 3,tp 5]),mq 6 7] [6] .ret))
def an_z70r5 : Ann := ann (List.range 2) ac_z70r5
theorem ok_z70r5 : okd Tryz.prog an_z70r5 ac_z70r5 Tryz.f165 := ⟨by kernel_rfl, by kernel_rfl⟩

def ac_zln7r : AC := (sr [oo 4 (.mv (.const .nilFunc))] [0,1] (sr [mq 5 0,mq 6 1,oo 7 (.call 165 [tp 5,tp 6,ci 0]),mq 4 7] [4] .ret))
def an_zln7r : Ann := ann (List.range 2) ac_zln7r
theorem ok_zln7r : okd Tryz.prog an_zln7r ac_zln7r Tryz.f118 := ⟨by kernel_rfl, by kernel_rfl⟩

def ac_zmldt : AC := (sr [oo 2 (.alloc 4 [.pd (.raw (.bool false))])] [0,2,3] (.seq (sr [mq 4 0,oo 5 (.len (tp 4) true),oo 6 (.bin .gtr (tp 5) (ci 60))] [0,2,3,6] (.cond (tp 6) (sr [.mk none none (.store 1 (tp 2) (cq false))] [2] .ret) .skip)) (.seq (sr [mq 7 0,oo 8 (.call 118 [tp 7,.const (.string ⟨#[46]⟩)])] [2,3,8] (.block 0 (.rangeF [2] 9 (some 3) (tp 8) (.block 1 (sr [mq 10 3,oo 11 (.call 71 [tp 10]),oo 12 (.un .not (tp 11))] [2,12] (.cond (tp 12) (sr [.mk none none (.store 1 (tp 2) (cq false))] [] .ret) .skip)))))) (sr [.mk none none (.store 1 (tp 2) (cq true))] [2] .ret))))
def an_zmldt : Ann := ann [0,1,2,3,5,6,7] ac_zmldt
theorem ok_zmldt : okd Tryz.prog an_zmldt ac_zmldt Tryz.f70 := ⟨by kernel_rfl, by kernel_rfl⟩
theorem ret_zmldt (st : St) : resD Tryz.prog st Tryz.f70.results.toList = resA st [.cell 2 none] := resD_of (by kernel_rfl)

def ac_zgqff : AC := (sr [oo 4 (.mv (.const (.string ⟨#[]⟩))),oo 5 (.mv (cq false))] [0,1] (sr [mq 6 0,mq 7 1,oo 8 (.call 174 [tp 6,tp 7]),oo 9 (.extract (tp 8) 0),oo 10 (.extract (tp 8) 1),mq 4 9,mq 5 10] [4,5] .ret))
def an_zgqff : Ann := ann (List.range 2) ac_zgqff
theorem ok_zgqff : okd Tryz.prog an_zgqff ac_zgqff Tryz.f136 := ⟨by kernel_rfl, by kernel_rfl⟩

def ac_zd73u : AC := (sr [oo 4 (.mv (.const (.string ⟨#[]⟩))),oo 5 (.mv (cq false))] [0,1] (.seq (sr [mq 6 0,mq 7 1,oo 8 (.call 213 [tp 6,tp 7]),oo 9 (.un .not (tp 8))] [0,1,9] (.cond (tp 9) (sr [mq 10 0,mq 4 10,oo 5 (.mv (cq false))] [4,5] .ret) .skip)) (sr [mq 11 0,mq 12 1,oo 13 (.len (tp 12) true),oo 14 (.slcS (tp 11) (some (tp 13)) none),mq 4 14,oo 5 (.mv (cq true))] [4,5] .ret)))
def an_zd73u : Ann := ann (List.range 4) ac_zd73u
theorem ok_zd73u : okd Tryz.prog an_zd73u ac_zd73u Tryz.f174 := ⟨by kernel_rfl, by kernel_rfl⟩

def ac_zntfc : AC := (sr [oo 4 (.mv (cq false))] [0,1] (sr [mq 5 0,oo 6 (.len (tp 5) true),mq 7 1,oo 8 (.len (tp 7) true),oo 9 (.bin .geq (tp 6) (tp 8)),mq 10 9,og 10 true 11 (.mv (tp 0)),og 10 true 12 (.mv (tp 1)),og 10 true 13 (.len (tp 12) true),og 10 true 14 (.slcS (tp 11) none (some (tp 13))),og 10 true 15 (.mv (tp 1)),og 10 true 16 (.bin .eql (tp 14) (tp 15)),oo 17 (.pick (tp 10) (tp 16) (cq false)),mq 4 17] [4] .ret))
def an_zntfc : Ann := ann (List.range 2) ac_zntfc
theorem ok_zntfc : okd Tryz.prog an_zntfc ac_zntfc Tryz.f213 := ⟨by kernel_rfl, by kernel_rfl⟩

def ac_zc2tl : AC := (sr [oo 4 (.mv (cq false))] [0,1] (sr [mq 5 0,mq 6 1,oo 7 (.call 213 [tp 5,tp 6]),mq 4 7] [4] .ret))
def an_zc2tl : Ann := ann (List.range 2) ac_zc2tl
theorem ok_zc2tl : okd Tryz.prog an_zc2tl ac_zc2tl Tryz.f243 := ⟨by kernel_rfl, by kernel_rfl⟩

def ac_zq3h5 : AC := (sr [oo 4 (.mv (cq false))] [0,1] (sr [mq 5 0,mq 6 1,oo 7 (.call 250 [tp 5,tp 6]),mq 4 7] [4] .ret))
def an_zq3h5 : Ann := ann (List.range 2) ac_zq3h5
theorem ok_zq3h5 : okd Tryz.prog an_zq3h5 ac_zq3h5 Tryz.f244 := ⟨by kernel_rfl, by kernel_rfl⟩

def ac_z30tk : AC := (sr [oo 4 (.mv (cq false))] [0,1] (sr [mq 5 0,oo 6 (.len (tp 5) true),mq 7 1,oo 8 (.len (tp 7) true),oo 9 (.bin .geq (tp 6) (tp 8)),mq 10 9,og 10 true 11 (.mv (tp 0)),og 10 true 12 (.mv (tp 0)),og 10 true 13 (.len (tp 12) true),og 10 true 14 (.mv (tp 1)),og 10 true 15 (.len (tp 14) true),og 10 true 16 (.bin .sub (tp 13) (tp 15)),og 10 true 17 (.slcS (tp 11) (some (tp 16)) none),og 10 true 18 (.mv (tp 1)),og 10 true 19 (.bin .eql (tp 17) (tp 18)),oo 20 (.pick (tp 10) (tp 19) (cq false)),mq 4 20] [4] .ret))
def an_z30tk : Ann := ann (List.range 2) ac_z30tk
theorem ok_z30tk : okd Tryz.prog an_z30tk ac_z30tk Tryz.f250 := ⟨by kernel_rfl, by kernel_rfl⟩

def ac_z2osy : AC := (sr [oo 2 (.mv (cq false))] [0] (sr [mq 6 0,oo 7 (.call 136 [tp 6,.const (.string ⟨#[42,46]⟩)]),mq 5 7,oo 8 (.extract (tp 5) 0),oo 9 (.extract (tp 5) 1),mq 3 8,mq 4 9] [0,3,4] (sr [mq 10 0,oo 11 (.bin .eql (tp 10) (.const (.string ⟨#[]⟩))),mq 12 11,og 12 false 13 (.mv (tp 0)),og 12 false 14 (.len (tp 13) true),og 12 false 15 (.bin .leq (tp 14) (ci 60)),og 12 false 16 (.mv (tp 15)),og 16 true 17 (.mv (tp 3)),og 16 true 18 (.call 70 [tp 17]),og 12 false 19 (.pick (tp 16) (tp 18) (cq false)),og 12 false 20 (.mv (tp 19)),og 20 true 21 (.mv (tp 4)),og 20 true 22 (.mv (tp 21)),og 22 false 23 (.mv (tp 3)),og 22 false 24 (.mv (tp 0)),og 22 false 25 (.bin .eql (tp 23) (tp 24)),og 20 true 26 (.pick (tp 22) (cq true) (tp 25)),og 12 false 27 (.pick (tp 20) (tp 26) (cq false)),oo 28 (.pick (tp 12) (cq true) (tp 27)),mq 2 28] [2] .ret)))
def an_z2osy : Ann := ann (List.range 3) ac_z2osy
theorem ok_z2osy : okd Tryz.prog an_z2osy ac_z2osy Tryz.f91 := ⟨by kernel_rfl, by kernel_rfl⟩

def ac_z6j2 : AC := (sr [oo 2 (.mv (cq false))] [0] (.seq (sr [mq 5 0,oo 6 (.srange (tp 5))] [0,6] (.block 0 (.loop (sr [oo 7 (.snext (tp 6)),oo 8 (.extract (tp 7) 0)] [0,6,7,8] (.seq (.cond (tp 8) .skip (.exit 0)) (.block 1 (sr [oo 9 (.extract (tp 7) 2),mq 4 9] [0,4,6] (sr [mq 10 4,oo 11 (.bin .lss (tp 10) (.const (.int .i32 33))),mq 12 11,og 12 false 13 (.mv (tp 4)),og 12 false 14 (.bin .gtr (tp 13) (.const (.int .i32 126))),oo 15 (.pick (tp 12) (cq true) (tp 14)),mq 16 15,og 16 false 17 (.mv (tp 4)),og 16 false 18 (.bin .eql (tp 17) (.const (.int .i32 63))),oo 19 (.pick (tp 16) (cq true) (tp 18)),mq 20 19,og 20 false 21 (.mv (tp 4)),og 20 false 22 (.bin .eql (tp 21) (.const (.int .i32 35))),oo 23 (.pick (tp 20) (cq true) (tp 22))] [0,6,23] (.cond (tp 23) (sr [oo 2 (.mv (cq false))] [2] .ret) .skip))))))))) (sr [mq 24 0,oo 25 (.call 243 [tp 24,.const (.string ⟨#[47]⟩)]),mq 26 25,og 26 true 27 (.mv (tp 0)),og 26 true 28 (.len (tp 27) true),og 26 true 29 (.bin .leq (tp 28) (ci 60)),oo 30 (.pick (tp 26) (tp 29) (cq false)),mq 2 30] [2] .ret)))
def an_z6j2 : Ann := ann (List.range 7) ac_z6j2
theorem ok_z6j2 : okd Tryz.prog an_z6j2 ac_z6j2 Tryz.f217 := ⟨by kernel_rfl, by kernel_rfl⟩

def ac_zgeto : AC := (sr [oo 2 (.mv (cq false))] [0] (sr [mq 3 0,oo 4 (.call 217 [tp 3]),mq 5 4,og 5 true 6 (.mv (tp 0)),og 5 true 7 (.bin .eql (tp 6) (.const (.string ⟨#[47]⟩))),og 5 true 8 (.mv (tp 7)),og 8 false 9 (.mv (tp 0)),og 8 false 10 (.call 244 [tp 9,.const (.string ⟨#[47]⟩)]),og 8 false 11 (.un .not (tp 10)),og 5 true 12 (.pick (tp 8) (cq true) (tp 11)),oo 13 (.pick (tp 5) (tp 12) (cq false)),mq 2 13] [2] .ret))
def an_zgeto : Ann := ann (List.range 2) ac_zgeto
theorem ok_zgeto : okd Tryz.prog an_zgeto ac_zgeto Tryz.f218 := ⟨by kernel_rfl, by kernel_rfl⟩

def ac_z2uwa : AC := (sr [oo 1 (.box 75 (tp 0)),oo 2 (.mv (cq false))] [1] (sr [fi 3 0 1,lq 4 3,oo 5 (.bin .eql (tp 4) (ci 1)),mq 6 5,og 6 true 7 (.fieldA 1 (tp 1)),og 6 true 8 (.load none (tp 7)),og 6 true 9 (.call 217 [tp 8]),oo 10 (.pick (tp 6) (tp 9) (cq false)),mq 11 10,og 11 false 12 (.fieldA 0 (tp 1)),og 11 false 13 (.load none (tp 12)),og 11 false 14 (.bin .eql (tp 13) (ci 2)),og 11 false 15 (.mv (tp 14)),og 15 true 16 (.fieldA 1 (tp 1)),og 15 true 17 (.load none (tp 16)),og 15 true 18 (.call 218 [tp 17]),og 11 false 19 (.pick (tp 15) (tp 18) (cq false)),oo 20 (.pick (tp 11) (cq true) (tp 19)),mq 2 20] [2] .ret))
def an_z2uwa : Ann := ann (List.range 2) ac_z2uwa
theorem ok_z2uwa : okd Tryz.prog an_z2uwa ac_z2uwa Tryz.f181 := ⟨by kernel_rfl, by kernel_rfl⟩

def ac_ziqey : AC := (sr [oo 2 (.mv (cq false))] [0] (sr [mq 3 0,oo 4 (.bin .eql (tp 3) (.const (.string ⟨#[]⟩))),mq 5 4,og 5 false 6 (.mv (tp 0)),og 5 false 7 (.call 71 [tp 6]),oo 8 (.pick (tp 5) (cq true) (tp 7)),mq 2 8] [2] .ret))
def an_ziqey : Ann := ann (List.range 2) ac_ziqey
theorem ok_ziqey : okd Tryz.prog an_ziqey ac_ziqey Tryz.f122 := ⟨by kernel_rfl, by kernel_rfl⟩

def ac_z2iq3 : AC := (sr [oo 2 (.mv (cq false))] [0] (.seq (sr [mq 5 0,oo 6 (.len (tp 5) false),oo 7 (.mv (ci 0))] [0,5,6,7] (.block 0 (.loop (sr [oo 8 (.bin .lss (tp 7) (tp 6))] [0,5,6,7,8] (.seq (.cond (tp 8) .skip (.exit 0)) (.seq (.block 1 (sr [mq 9 7,oo 10 (.idxA 2 (tp 5) (tp 7)),oo 11 (.load (some 2) (tp 10)),oo 4 (.alloc 88 [.pd (.raw (.string ⟨#[]⟩)),.pd (.raw (.string ⟨#[]⟩))]),mq 3 9,.mk none none (.store 2 (tp 4) (tp 11))] [0,3,4,5,6,7] (.seq (.draw [fi 12 0 4,lq 13 12,oo 14 (.call 70 [tp 13]),oo 15 (.un .not (tp 14)),mq 16 15,og 16 false 17 (.fieldA 1 (tp 4)),og 16 false 18 (.load none (tp 17)),og 16 false 19 (.call 122 [tp 18]),og 16 false 20 (.un .not (tp 19)),oo 21 (.pick (tp 16) (cq true) (tp 20)),mq 22 21,og 22 false 23 (.mv (tp 3)),og 22 false 24 (.bin .gtr (tp 23) (ci 0)),og 22 false 25 (.mv (tp 24)),og 25 true 26 (.mv (tp 0)),og 25 true 27 (.mv (tp 3)),og 25 true 28 (.bin .sub (tp 27) (ci 1)),og 25 true 29 (.idxA 2 (tp 26) (tp 28)),og 25 true 30 (.fieldA 0 (tp 29)),og 25 true 31 (.load none (tp 30)),og 25 true 32 (.fieldA 0 (tp 4)),og 25 true 33 (.load none (tp 32)),og 25 true 34 (.bin .geq (tp 31) (tp 33)),og 22 false 35 (.pick (tp 25) (tp 34) (cq false)),oo 36 (.pick (tp 22) (cq true) (tp 35))] [0,1,3,7,15,31,63,127,255,511,1023,2047,4095,8191,16383,16383,49151,131071,262143,524287,16383,1064959,4194303,8388607,16777215] (.take 0 (.take 1 (.alts (.cons 2 true (.take 3 (.take 4 (.take 5 (.take 6 (.alts (.cons 7 true (.take 8 (.take 9 (.take 10 (.take 11 (.take 12 (.take 13 (.take 14 (.take 15 (.take 16 (.take 17 (.take 18 (.take 19 (.take 20 (.take 21 (.take 22 (.take 23 (.take 24 .done))))))))))))))))) .nil)))))) .nil)))) (some [0,5,6,7,36])) (.cond (tp 36) (sr [oo 2 (.mv (cq false))] [2] .ret) .skip)))) (.region [oo 37 (.bin .add (tp 7) (ci 1)),mq 7 37] (some [0,5,6,7])))))))) (sr [mq 38 0,oo 39 (.len (tp 38) false),oo 40 (.bin .leq (tp 39) (ci 8)),mq 2 40] [2] .ret)))
def an_z2iq3 : Ann := ann (List.range 8) ac_z2iq3
theorem ok_z2iq3 : okd Tryz.prog an_z2iq3 ac_z2iq3 Tryz.f76 := ⟨by kernel_rfl, by kernel_rfl⟩

def ac_zr0tf : AC := (sr [oo 2 (.mv (cq false))] [0] (.seq (sr [mq 5 0,oo 6 (.len (tp 5) false),oo 7 (.mv (ci 0))] [0,5,6,7] (.block 0 (.loop (sr [oo 8 (.bin .lss (tp 7) (tp 6))] [0,5,6,7,8] (.seq (.cond (tp 8) .skip (.exit 0)) (.seq (.block 1 (sr [oo 9 (.idxA 2 (tp 5) (tp 7)),oo 10 (.load (some 2) (tp 9)),oo 4 (.alloc 88 [.pd (.raw (.string ⟨#[]⟩)),.pd (.raw (.string ⟨#[]⟩))]),.mk none none (.store 2 (tp 4) (tp 10))] [0,4,5,6,7] (sr [fi 11 0 4,lq 12 11,oo 13 (.bin .eql (tp 12) (.const (.string ⟨#[]⟩))),mq 14 13,og 14 false 15 (.fieldA 0 (tp 4)),og 14 false 16 (.load none (tp 15)),og 14 false 17 (.len (tp 16) true),og 14 false 18 (.bin .gtr (tp 17) (ci 40)),oo 19 (.pick (tp 14) (cq true) (tp 18)),mq 20 19,og 20 false 21 (.fieldA 1 (tp 4)),og 20 false 22 (.load none (tp 21)),og 20 false 23 (.len (tp 22) true),og 20 false 24 (.bin .gtr (tp 23) (ci 40)),oo 25 (.pick (tp 20) (cq true) (tp 24))] [0,5,6,7,25] (.cond (tp 25) (sr [oo 2 (.mv (cq false))] [2] .ret) .skip)))) (.region [oo 26 (.bin .add (tp 7) (ci 1)),mq 7 26] (some [0,5,6,7])))))))) (sr [mq 27 0,oo 28 (.len (tp 27) false),oo 29 (.bin .leq (tp 28) (ci 20)),mq 2 29] [2] .ret)))
def an_zr0tf : Ann := ann (List.range 8) ac_zr0tf
theorem ok_zr0tf : okd Tryz.prog an_zr0tf ac_zr0tf Tryz.f186 := ⟨by kernel_rfl, by kernel_rfl⟩

def ac_zixxy : AC := (sr [oo 4 (.mv (ci 0))] [0,1] (sr [mq 5 0,mq 6 1,oo 7 (.call 231 [tp 5,tp 6]),mq 4 7] [4] .ret))
def an_zixxy : Ann := ann (List.range 2) ac_zixxy
theorem ok_zixxy : okd Tryz.prog an_zixxy ac_zixxy Tryz.f215 := ⟨by kernel_rfl, by kernel_rfl⟩

def ac_zwtth : AC := (sr [oo 2 (.mv (cq false))] [0] (.seq (sr [mq 5 0,oo 6 (.len (tp 5) true),oo 7 (.mv (ci 0))] [0,6,7] (.block 0 (.loop (sr [oo 8 (.bin .lss (tp 7) (tp 6))] [0,6,7,8] (.seq (.cond (tp 8) .skip (.exit 0)) (.seq (.block 1 (sr [mq 9 7,mq 3 9] [0,3,6,7] (sr [mq 10 0,mq 11 3,oo 12 (.idxS (tp 10) (tp 11)),oo 13 (.bin .or (tp 12) (.const (.int .u8 32))),mq 4 13] [0,3,4,6,7] (sr [mq 14 4,oo 15 (.bin .geq (tp 14) (.const (.int .u8 97))),mq 16 15,og 16 true 17 (.mv (tp 4)),og 16 true 18 (.bin .leq (tp 17) (.const (.int .u8 122))),oo 19 (.pick (tp 16) (tp 18) (cq false)),mq 20 19,og 20 false 21 (.mv (tp 0)),og 20 false 22 (.mv (tp 3)),og 20 false 23 (.idxS (tp 21) (tp 22)),og 20 false 24 (.bin .geq (tp 23) (.const (.int .u8 48))),og 20 false 25 (.mv (tp 24)),og 25 true 26 (.mv (tp 0)),og 25 true 27 (.mv (tp 3)),og 25 true 28 (.idxS (tp 26) (tp 27)),og 25 true 29 (.bin .leq (tp 28) (.const (.int .u8 57))),og 20 false 30 (.pick (tp 25) (tp 29) (cq false)),oo 31 (.pick (tp 20) (cq true) (tp 30)),mq 32 31,og 32 false 33 (.mv (tp 0)),og 32 false 34 (.mv (tp 3)),og 32 false 35 (.idxS (tp 33) (tp 34)),og 32 false 36 (.call 215 [.const (.string ⟨#[33,35,36,37,38,39,42,43,45,46,94,95,96,124,126]⟩),tp 35]),og 32 false 37 (.bin .geq (tp 36) (ci 0)),oo 38 (.pick (tp 32) (cq true) (tp 37)),oo 39 (.un .not (tp 38))] [0,6,7,39] (.cond (tp 39) (sr [oo 2 (.mv (cq false))] [2] .ret) .skip))))) (.region [oo 40 (.bin .add (tp 7) (ci 1)),mq 7 40] (some [0,6,7])))))))) (sr [mq 41 0,oo 42 (.bin .neq (tp 41) (.const (.string ⟨#[]⟩))),mq 43 42,og 43 true 44 (.mv (tp 0)),og 43 true 45 (.len (tp 44) true),og 43 true 46 (.bin .leq (tp 45) (ci 40)),oo 47 (.pick (tp 43) (tp 46) (cq false)),mq 2 47] [2] .ret)))
def an_zwtth : Ann := ann (List.range 9) ac_zwtth
theorem ok_zwtth : okd Tryz.prog an_zwtth ac_zwtth Tryz.f179 := ⟨by kernel_rfl, by kernel_rfl⟩

def ac_z4wze : AC := (sr [oo 2 (.mv (cq false))] [0] (.seq (sr [mq 4 0,oo 5 (.len (tp 4) true),oo 6 (.mv (ci 0))] [0,5,6] (.block 0 (.loop (sr [oo 7 (.bin .lss (tp 6) (tp 5))] [0,5,6,7] (.seq (.cond (tp 7) .skip (.exit 0)) (.seq (.block 1 (sr [mq 8 6,mq 3 8] [0,3,5,6] (sr [mq 9 0,mq 10 3,oo 11 (.idxS (tp 9) (tp 10)),oo 12 (.bin .lss (tp 11) (.const (.int .u8 32))),mq 13 12,og 13 false 14 (.mv (tp 0)),og 13 false 15 (.mv (tp 3)),og 13 false 16 (.idxS (tp 14) (tp 15)),og 13 false 17 (.bin .gtr (tp 16) (.const (.int .u8 126))),oo 18 (.pick (tp 13) (cq true) (tp 17))] [0,5,6,18] (.cond (tp 18) (sr [oo 2 (.mv (cq false))] [2] .ret) .skip)))) (.region [oo 19 (.bin .add (tp 6) (ci 1)),mq 6 19] (some [0,5,6])))))))) (sr [mq 20 0,oo 21 (.len (tp 20) true),oo 22 (.bin .leq (tp 21) (ci 40)),mq 23 22,og 23 true 24 (.mv (tp 0)),og 23 true 25 (.call 216 [tp 24,.const (.string ⟨#[32]⟩)]),og 23 true 26 (.mv (tp 0)),og 23 true 27 (.bin .eql (tp 25) (tp 26)),oo 28 (.pick (tp 23) (tp 27) (cq false)),mq 2 28] [2] .ret)))
def an_z4wze : Ann := ann (List.range 8) ac_z4wze
theorem ok_z4wze : okd Tryz.prog an_z4wze ac_z4wze Tryz.f180 := ⟨by kernel_rfl, by kernel_rfl⟩

def ac_zmas7 : AC := (sr [oo 4 (.mv (.const (.string ⟨#[]⟩)))] [0,1] (.seq (sr [mq 7 0,oo 8 (.bin .eql (tp 7) (.const (.string ⟨#[]⟩))),mq 9 8,og 9 false 10 (.mv (tp 1)),og 9 false 11 (.bin .eql (tp 10) (.const (.string ⟨#[]⟩))),oo 12 (.pick (tp 9) (cq true) (tp 11))] [0,1,12] (.cond (tp 12) (sr [mq 13 0,mq 4 13] [4] .ret) .skip)) (.seq (sr [mq 14 1,oo 15 (.len (tp 14) true),oo 16 (.bin .eql (tp 15) (ci 1)),mq 17 16,og 17 true 18 (.mv (tp 1)),og 17 true 19 (.idxS (tp 18) (ci 0)),og 17 true 20 (.bin .lss (tp 19) (.const (.int .u8 128))),oo 21 (.pick (tp 17) (tp 20) (cq false))] [0,1,21] (.cond (tp 21) (.seq (.draw [mq 22 0,mq 23 1,oo 24 (.idxS (tp 23) (ci 0)),oo 25 (.call 237 [tp 22,tp 24]),mq 26 1,oo 27 (.idxS (tp 26) (ci 0)),oo 28 (.call 236 [tp 25,tp 27]),mq 4 28] [0,0,2,7,0,16,63,127] (.take 0 (.take 1 (.take 2 (.take 4 (.take 5 (.alts (.cons 3 false (.alts (.cons 6 true (.take 7 .done) .nil)) .nil))))))) (some [4])) .ret) .skip)) (.seq (sr [mq 30 1,oo 31 (.call 238 [tp 30]),mq 29 31,oo 32 (.extract (tp 29) 0),oo 33 (.extract (tp 29) 1),oo 5 (.alloc 230 [.pd (.raw (.bool false)),.pd (.raw (.bool false)),.pd (.raw (.bool false)),.pd (.raw (.bool false)),.pd (.raw (.bool false)),.pd (.raw (.bool false)),.pd (.raw (.bool false)),.pd (.raw (.bool false)),.pd (.raw (.bool false)),.pd (.raw (.bool false)),.pd (.raw (.bool false)),.pd (.raw (.bool false)),.pd (.raw (.bool false)),.pd (.raw (.bool false)),.pd (.raw (.bool false)),.pd (.raw (.bool false)),.pd (.raw (.bool false)),.pd (.raw (.bool false)),.pd (.raw (.bool false)),.pd (.raw (.bool false)),.pd (.raw (.bool false)),.pd (.raw (.bool false)),.pd (.raw (.bool false)),.pd (.raw (.bool false)),.pd (.raw (.bool false)),.pd (.raw (.bool false)),.pd (.raw (.bool false)),.pd (.raw (.bool false)),.pd (.raw (.bool false)),.pd (.raw (.bool false)),.pd (.raw (.bool false)),.pd (.raw (.bool false)),.pd (.raw (.bool false)),.pd (.raw (.bool false)),.pd (.raw (.bool false)),.pd (.raw (.bool false)),.pd (.raw (.bool false)),.pd (.raw (.bool false)),.pd (.raw (.bool false)),.pd (.raw (.bool false)),.pd (.raw (.bool false)),.pd (.raw (.bool false)),.pd (.raw (.bool false)),.pd (.raw (.bool false)),.pd (.raw (.bool false)),.pd (.raw (.bool false)),.pd (.raw (.bool false)),.pd (.raw (.bool false)),.pd (.raw (.bool false)),.pd (.raw (.bool false)),.pd (.raw (.bool false)),.pd (.raw (.bool false)),.pd (.raw (.bool false)),.pd (.raw (.bool false)),.pd (.raw (.bool false)),.pd (.raw (.bool false)),.pd (.raw (.bool false)),.pd (.raw (.bool false)),.pd (.raw (.bool false)),.pd (.raw (.bool false)),.pd (.raw (.bool false)),.pd (.raw (.bool false)),.pd (.raw (.bool false)),.pd (.raw (.bool false)),.pd (.raw (.bool false)),.pd (.raw (.bool false)),.pd (.raw (.bool false)),.pd (.raw (.bool false)),.pd (.raw (.bool false)),.pd (.raw (.bool false)),.pd (.raw (.bool false)),.pd (.raw (.bool false)),.pd (.raw (.bool false)),.pd (.raw (.bool false)),.pd (.raw (.bool false)),.pd (.raw (.bool false)),.pd (.raw (.bool false)),.pd (.raw (.bool false)),.pd (.raw (.bool false)),.pd (.raw (.bool false)),.pd (.raw (.bool false)),.pd (.raw (.bool false)),.pd (.raw (.bool false)),.pd (.raw (.bool false)),.pd (.raw (.bool false)),.pd (.raw (.bool false)),.pd (.raw (.bool false)),.pd (.raw (.bool false)),.pd (.raw (.bool false)),.pd (.raw (.bool false)),.pd (.raw (.bool false)),.pd (.raw (.bool false)),.pd (.raw (.bool false)),.pd (.raw (.bool false)),.pd (.raw (.bool false)),.pd (.raw (.bool false)),.pd (.raw (.bool false)),.pd (.raw (.bool false)),.pd (.raw (.bool false)),.pd (.raw (.bool false)),.pd (.raw (.bool false)),.pd (.raw (.bool false)),.pd (.raw (.bool false)),.pd (.raw (.bool false)),.pd (.raw (.bool false)),.pd (.raw (.bool false)),.pd (.raw (.bool false)),.pd (.raw (.bool false)),.pd (.raw (.bool false)),.pd (.raw (.bool false)),.pd (.raw (.bool false)),.pd (.raw (.bool false)),.pd (.raw (.bool false)),.pd (.raw (.bool false)),.pd (.raw (.bool false)),.pd (.raw (.bool false)),.pd (.raw (.bool false)),.pd (.raw (.bool false)),.pd (.raw (.bool false)),.pd (.raw (.bool false)),.pd (.raw (.bool false)),.pd (.raw (.bool false)),.pd (.raw (.bool false)),.pd (.raw (.bool false)),.pd (.raw (.bool false)),.pd (.raw (.bool false)),.pd (.raw (.bool false)),.pd (.raw (.bool false)),.pd (.raw (.bool false)),.pd (.raw (.bool false)),.pd (.raw (.bool false)),.pd (.raw (.bool false)),.pd (.raw (.bool false)),.pd (.raw (.bool false)),.pd (.raw (.bool false)),.pd (.raw (.bool false)),.pd (.raw (.bool false)),.pd (.raw (.bool false)),.pd (.raw (.bool false)),.pd (.raw (.bool false)),.pd (.raw (.bool false)),.pd (.raw (.bool false)),.pd (.raw (.bool false)),.pd (.raw (.bool false)),.pd (.raw (.bool false)),.pd (.raw (.bool false)),.pd (.raw (.bool false)),.pd (.raw (.bool false)),.pd (.raw (.bool false)),.pd (.raw (.bool false)),.pd (.raw (.bool false)),.pd (.raw (.bool false)),.pd (.raw (.bool false)),.pd (.raw (.bool false)),.pd (.raw (.bool false)),.pd (.raw (.bool false)),.pd (.raw (.bool false)),.pd (.raw (.bool false)),.pd (.raw (.bool false)),.pd (.raw (.bool false)),.pd (.raw (.bool false)),.pd (.raw (.bool false)),.pd (.raw (.bool false)),.pd (.raw (.bool false)),.pd (.raw (.bool false)),.pd (.raw (.bool false)),.pd (.raw (.bool false)),.pd (.raw (.bool false)),.pd (.raw (.bool false)),.pd (.raw (.bool false)),.pd (.raw (.bool false)),.pd (.raw (.bool false)),.pd (.raw (.bool false)),.pd (.raw (.bool false)),.pd (.raw (.bool false)),.pd (.raw (.bool false)),.pd (.raw (.bool false)),.pd (.raw (.bool false)),.pd (.raw (.bool false)),.pd (.raw (.bool false)),.pd (.raw (.bool false)),.pd (.raw (.bool false)),.pd (.raw (.bool false)),.pd (.raw (.bool false)),.pd (.raw (.bool false)),.pd (.raw (.bool false)),.pd (.raw (.bool false)),.pd (.raw (.bool false)),.pd (.raw (.bool false)),.pd (.raw (.bool false)),.pd (.raw (.bool false)),.pd (.raw (.bool false)),.pd (.raw (.bool false)),.pd (.raw (.bool false)),.pd (.raw (.bool false)),.pd (.raw (.bool false)),.pd (.raw (.bool false)),.pd (.raw (.bool false)),.pd (.raw (.bool false)),.pd (.raw (.bool false)),.pd (.raw (.bool false)),.pd (.raw (.bool false)),.pd (.raw (.bool false)),.pd (.raw (.bool false)),.pd (.raw (.bool false)),.pd (.raw (.bool false)),.pd (.raw (.bool false)),.pd (.raw (.bool false)),.pd (.raw (.bool false)),.pd (.raw (.bool false)),.pd (.raw (.bool false)),.pd (.raw (.bool false)),.pd (.raw (.bool false)),.pd (.raw (.bool false)),.pd (.raw (.bool false)),.pd (.raw (.bool false)),.pd (.raw (.bool false)),.pd (.raw (.bool false)),.pd (.raw (.bool false)),.pd (.raw (.bool false)),.pd (.raw (.bool false)),.pd (.raw (.bool false)),.pd (.raw (.bool false)),.pd (.raw (.bool false)),.pd (.raw (.bool false)),.pd (.raw (.bool false)),.pd (.raw (.bool false)),.pd (.raw (.bool false)),.pd (.raw (.bool false)),.pd (.raw (.bool false)),.pd (.raw (.bool false)),.pd (.raw (.bool false)),.pd (.raw (.bool false)),.pd (.raw (.bool false)),.pd (.raw (.bool false)),.pd (.raw (.bool false)),.pd (.raw (.bool false)),.pd (.raw (.bool false)),.pd (.raw (.bool false)),.pd (.raw (.bool false)),.pd (.raw (.bool false)),.pd (.raw (.bool false)),.pd (.raw (.bool false)),.pd (.raw (.bool false)),.pd (.raw (.bool false)),.pd (.raw (.bool false)),.pd (.raw (.bool false)),.pd (.raw (.bool false)),.pd (.raw (.bool false)),.pd (.raw (.bool false)),.pd (.raw (.bool false)),.pd (.raw (.bool false)),.pd (.raw (.bool false)),.pd (.raw (.bool false)),.pd (.raw (.bool false)),.pd (.raw (.bool false))]),.mk none none (.store 256 (tp 5) (tp 32)),mq 6 33] [0,1,5,6] (sr [mq 34 6] [0,1,5,34] (.cond (tp 34) (sr [mq 35 0,oo 36 (.call 240 [tp 35,tp 5]),oo 37 (.call 239 [tp 36,tp 5]),mq 4 37] [4] .ret) .skip))) (sr [mq 38 0,mq 39 1,oo 40 (.call 242 [tp 38,tp 39]),mq 41 1,oo 42 (.call 241 [tp 40,tp 41]),mq 4 42] [4] .ret)))))
def an_zmas7 : Ann := ann (List.range 9) ac_zmas7
theorem ok_zmas7 : okd Tryz.prog an_zmas7 ac_zmas7 Tryz.f216 := ⟨by kernel_rfl, by kernel_rfl⟩

def ac_zu0fc : AC := (sr [oo 4 (.mv (.const (.string ⟨#[]⟩)))] [0,1] (.seq (.block 0 (.loop (.seq (sr [mq 5 0,oo 6 (.len (tp 5) true),oo 7 (.bin .gtr (tp 6) (ci 0)),mq 8 7,og 8 true 9 (.mv (tp 0)),og 8 true 10 (.idxS (tp 9) (ci 0)),og 8 true 11 (.mv (tp 1)),og 8 true 12 (.bin .eql (tp 10) (tp 11)),oo 13 (.pick (tp 8) (tp 12) (cq false))] [0,1,13] (.cond (tp 13) .skip (.exit 0))) (.block 1 (.region [mq 14 0,oo 15 (.slcS (tp 14) (some (ci 1)) none),mq 0 15] (some [0,1])))))) (sr [mq 16 0,mq 4 16] [4] .ret)))
def an_zu0fc : Ann := ann (List.range 4) ac_zu0fc
theorem ok_zu0fc : okd Tryz.prog an_zu0fc ac_zu0fc Tryz.f236 := ⟨by kernel_rfl, by kernel_rfl⟩

def ac_zdteh : AC := (sr [oo 4 (.mv (.const (.string ⟨#[]⟩)))] [0,1] (.seq (.block 0 (.loop (.seq (sr [mq 5 0,oo 6 (.len (tp 5) true),oo 7 (.bin .gtr (tp 6) (ci 0)),mq 8 7,og 8 true 9 (.mv (tp 0)),og 8 true 10 (.mv (tp 0)),og 8 true 11 (.len (tp 10) true),og 8 true 12 (.bin .sub (tp 11) (ci 1)),og 8 true 13 (.idxS (tp 9) (tp 12)),og 8 true 14 (.mv (tp 1)),og 8 true 15 (.bin .eql (tp 13) (tp 14)),oo 16 (.pick (tp 8) (tp 15) (cq false))] [0,1,16] (.cond (tp 16) .skip (.exit 0))) (.block 1 (.region [mq 17 0,mq 18 0,oo 19 (.len (tp 18) true),oo 20 (.bin .sub (tp 19) (ci 1)),oo 21 (.slcS (tp 17) none (some (tp 20))),mq 0 21] (some [0,1])))))) (sr [mq 22 0,mq 4 22] [4] .ret)))
def an_zdteh : Ann := ann (List.range 4) ac_zdteh
theorem ok_zdteh : okd Tryz.prog an_zdteh ac_zdteh Tryz.f237 := ⟨by kernel_rfl, by kernel_rfl⟩

def ac_zrrew : AC := (sr [oo 4 (.mv (cq false))] [0,1] (sr [mq 5 0,oo 6 (.call 222 [tp 5]),mq 7 1,oo 8 (.call 222 [tp 7]),oo 9 (.bin .eql (tp 6) (tp 8)),mq 4 9] [4] .ret))
def an_zrrew : Ann := ann (List.range 2) ac_zrrew
theorem ok_zrrew : okd Tryz.prog an_zrrew ac_zrrew Tryz.f185 := ⟨by kernel_rfl, by kernel_rfl⟩

def ac_zjt8m : AC := (sr [oo 2 (.mv (cq false))] [0] (sr [oo 3 (.mv (.func 219))] [0,3] (sr [mq 4 0,oo 5 (.bin .neq (tp 4) (.const (.string ⟨#[]⟩))),mq 6 5,og 6 true 7 (.mv (tp 0)),og 6 true 8 (.len (tp 7) true),og 6 true 9 (.bin .leq (tp 8) (ci 10)),oo 10 (.pick (tp 6) (tp 9) (cq false)),mq 11 10,og 11 true 12 (.mv (tp 0)),og 11 true 13 (.mv (tp 3)),og 11 true 14 (.call 121 [tp 12,tp 13]),og 11 true 15 (.bin .lss (tp 14) (ci 0)),oo 16 (.pick (tp 11) (tp 15) (cq false)),mq 2 16] [2] .ret)))
def an_zjt8m : Ann := ann (List.range 3) ac_zjt8m
theorem ok_zjt8m : okd Tryz.prog an_zjt8m ac_zjt8m Tryz.f182 := ⟨by kernel_rfl, by kernel_rfl⟩

def ac_zluy0 : AC := (sr [oo 2 (.mv (cq false))] [0] (sr [mq 3 0,oo 4 (.bin .lss (tp 3) (.const (.int .i32 65))),mq 5 4,og 5 false 6 (.mv (tp 0)),og 5 false 7 (.bin .gtr (tp 6) (.const (.int .i32 90))),oo 8 (.pick (tp 5) (cq true) (tp 7)),mq 2 8] [2] .ret))
def an_zluy0 : Ann := ann (List.range 2) ac_zluy0
theorem ok_zluy0 : okd Tryz.prog an_zluy0 ac_zluy0 Tryz.f219 := ⟨by kernel_rfl, by kernel_rfl⟩


def ac_zfsc3 : AC := (sr [oo 4 (.mv (cq false))] [0,1] (.seq (sr [mq 6 0,oo 7 (.len (tp 6) false),mq 8 1,oo 9 (.len (tp 8) false),oo 10 (.bin .neq (tp 7) (tp 9))] [0,1,10] (.cond (tp 10) (sr [oo 4 (.mv (cq false))] [4] .ret) .skip)) (.seq (sr [mq 11 0,oo 12 (.len (tp 11) false),oo 13 (.mv (ci 0))] [0,1,12,13] (.block 0 (.loop (sr [oo 14 (.bin .lss (tp 13) (tp 12))] [0,1,12,13,14] (.seq (.cond (tp 14) .skip (.exit 0)) (.seq (.block 1 (sr [mq 15 13,mq 5 15] [0,1,5,12,13] (.seq (.draw [mq 16 0,mq 17 5,oo 18 (.idxA 2 (tp 16) (tp 17)),oo 19 (.load (some 2) (tp 18)),mq 20 1,mq 21 5,oo 22 (.idxA 2 (tp 20) (tp 21)),oo 23 (.load (some 2) (tp 22)),oo 24 (.eqs true [.str,.str] (tp 19) (tp 23))] [0,0,3,7,0,0,48,112,255] (.take 0 (.take 1 (.take 2 (.take 3 (.take 4 (.take 5 (.take 6 (.take 7 (.take 8 .done))))))))) (some [0,1,12,13,24])) (.cond (tp 24) (sr [oo 4 (.mv (cq false))] [4] .ret) .skip)))) (.region [oo 25 (.bin .add (tp 13) (ci 1)),mq 13 25] (some [0,1,12,13])))))))) (sr [oo 4 (.mv (cq true))] [4] .ret))))
def an_zfsc3 : Ann := ann (List.range 10) ac_zfsc3
theorem ok_zfsc3 : okd Tryz.prog an_zfsc3 ac_zfsc3 Tryz.f45 := ⟨by kernel_rfl, by kernel_rfl⟩

def ac_zu266 : AC := (sr [oo 4 (.mv (cq false))] [0,1] (.seq (sr [mq 6 0,oo 7 (.len (tp 6) false),mq 8 1,oo 9 (.len (tp 8) false),oo 10 (.bin .neq (tp 7) (tp 9))] [0,1,10] (.cond (tp 10) (sr [oo 4 (.mv (cq false))] [4] .ret) .skip)) (.seq (sr [mq 11 0,oo 12 (.len (tp 11) false),oo 13 (.mv (ci 0))] [0,1,12,13] (.block 0 (.loop (sr [oo 14 (.bin .lss (tp 13) (tp 12))] [0,1,12,13,14] (.seq (.cond (tp 14) .skip (.exit 0)) (.seq (.block 1 (sr [mq 15 13,mq 5 15] [0,1,5,12,13] (.seq (.draw [mq 16 0,mq 17 5,oo 18 (.idxA 1 (tp 16) (tp 17)),lq 19 18,mq 20 1,mq 21 5,oo 22 (.idxA 1 (tp 20) (tp 21)),lq 23 22,oo 24 (.bin .neq (tp 19) (tp 23))] [0,0,3,7,0,0,48,112,255] (.take 0 (.take 1 (.take 2 (.take 3 (.take 4 (.take 5 (.take 6 (.take 7 (.take 8 .done))))))))) (some [0,1,12,13,24])) (.cond (tp 24) (sr [oo 4 (.mv (cq false))] [4] .ret) .skip)))) (.region [oo 25 (.bin .add (tp 13) (ci 1)),mq 13 25] (some [0,1,12,13])))))))) (sr [oo 4 (.mv (cq true))] [4] .ret))))
def an_zu266 : Ann := ann (List.range 10) ac_zu266
theorem ok_zu266 : okd Tryz.prog an_zu266 ac_zu266 Tryz.f46 := ⟨by kernel_rfl, by kernel_rfl⟩

def ac_zdvt9 : AC := (sr [oo 4 (.mv (cq false))] [0,1] (.seq (sr [mq 6 0,oo 7 (.len (tp 6) false),mq 8 1,oo 9 (.len (tp 8) false),oo 10 (.bin .neq (tp 7) (tp 9))] [0,1,10] (.cond (tp 10) (sr [oo 4 (.mv (cq false))] [4] .ret) .skip)) (.seq (sr [mq 11 0,oo 12 (.len (tp 11) false),oo 13 (.mv (ci 0))] [0,1,12,13] (.block 0 (.loop (sr [oo 14 (.bin .lss (tp 13) (tp 12))] [0,1,12,13,14] (.seq (.cond (tp 14) .skip (.exit 0)) (.seq (.block 1 (sr [mq 15 13,mq 5 15] [0,1,5,12,13] (.seq (.draw [mq 16 0,mq 17 5,oo 18 (.idxA 1 (tp 16) (tp 17)),lq 19 18,mq 20 1,mq 21 5,oo 22 (.idxA 1 (tp 20) (tp 21)),lq 23 22,oo 24 (.bin .neq (tp 19) (tp 23))] [0,0,3,7,0,0,48,112,255] (.take 0 (.take 1 (.take 2 (.take 3 (.take 4 (.take 5 (.take 6 (.take 7 (.take 8 .done))))))))) (some [0,1,12,13,24])) (.cond (tp 24) (sr [oo 4 (.mv (cq false))] [4] .ret) .skip)))) (.region [oo 25 (.bin .add (tp 13) (ci 1)),mq 13 25] (some [0,1,12,13])))))))) (sr [oo 4 (.mv (cq true))] [4] .ret))))
def an_zdvt9 : Ann := ann (List.range 10) ac_zdvt9
theorem ok_zdvt9 : okd Tryz.prog an_zdvt9 ac_zdvt9 Tryz.f47 := ⟨by kernel_rfl, by kernel_rfl⟩

def ac_zj0mp : AC := (sr [oo 4 (.mv (cq false))] [0,1] (.seq (sr [mq 6 0,oo 7 (.len (tp 6) false),mq 8 1,oo 9 (.len (tp 8) false),oo 10 (.bin .neq (tp 7) (tp 9))] [0,1,10] (.cond (tp 10) (sr [oo 4 (.mv (cq false))] [4] .ret) .skip)) (.seq (sr [mq 11 0,oo 12 (.len (tp 11) false),oo 13 (.mv (ci 0))] [0,1,12,13] (.block 0 (.loop (sr [oo 14 (.bin .lss (tp 13) (tp 12))] [0,1,12,13,14] (.seq (.cond (tp 14) .skip (.exit 0)) (.seq (.block 1 (sr [mq 15 13,mq 5 15] [0,1,5,12,13] (.seq (.draw [mq 16 0,mq 17 5,oo 18 (.idxA 4 (tp 16) (tp 17)),oo 19 (.load (some 4) (tp 18)),mq 20 1,mq 21 5,oo 22 (.idxA 4 (tp 20) (tp 21)),oo 23 (.load (some 4) (tp 22)),oo 24 (.eqs true [.str,.str,.str,.int] (tp 19) (tp 23))] [0,0,3,7,0,0,48,112,255] (.take 0 (.take 1 (.take 2 (.take 3 (.take 4 (.take 5 (.take 6 (.take 7 (.take 8 .done))))))))) (some [0,1,12,13,24])) (.cond (tp 24) (sr [oo 4 (.mv (cq false))] [4] .ret) .skip)))) (.region [oo 25 (.bin .add (tp 13) (ci 1)),mq 13 25] (some [0,1,12,13])))))))) (sr [oo 4 (.mv (cq true))] [4] .ret))))
def an_zj0mp : Ann := ann (List.range 10) ac_zj0mp
theorem ok_zj0mp : okd Tryz.prog an_zj0mp ac_zj0mp Tryz.f48 := ⟨by kernel_rfl, by kernel_rfl⟩

def ac_zlr2h : AC := (sr [oo 4 (.mv (cq false))] [0,1] (.seq (sr [mq 6 0,oo 7 (.len (tp 6) false),mq 8 1,oo 9 (.len (tp 8) false),oo 10 (.bin .neq (tp 7) (tp 9))] [0,1,10] (.cond (tp 10) (sr [oo 4 (.mv (cq false))] [4] .ret) .skip)) (.seq (sr [mq 11 0,oo 12 (.len (tp 11) false),oo 13 (.mv (ci 0))] [0,1,12,13] (.block 0 (.loop (sr [oo 14 (.bin .lss (tp 13) (tp 12))] [0,1,12,13,14] (.seq (.cond (tp 14) .skip (.exit 0)) (.seq (.block 1 (sr [mq 15 13,mq 5 15] [0,1,5,12,13] (.seq (.draw [mq 16 0,mq 17 5,oo 18 (.idxA 3 (tp 16) (tp 17)),oo 19 (.load (some 3) (tp 18)),mq 20 1,mq 21 5,oo 22 (.idxA 3 (tp 20) (tp 21)),oo 23 (.load (some 3) (tp 22)),oo 24 (.eqs true [.int,.str,.str] (tp 19) (tp 23))] [0,0,3,7,0,0,48,112,255] (.take 0 (.take 1 (.take 2 (.take 3 (.take 4 (.take 5 (.take 6 (.take 7 (.take 8 .done))))))))) (some [0,1,12,13,24])) (.cond (tp 24) (sr [oo 4 (.mv (cq false))] [4] .ret) .skip)))) (.region [oo 25 (.bin .add (tp 13) (ci 1)),mq 13 25] (some [0,1,12,13])))))))) (sr [oo 4 (.mv (cq true))] [4] .ret))))
def an_zlr2h : Ann := ann (List.range 10) ac_zlr2h
theorem ok_zlr2h : okd Tryz.prog an_zlr2h ac_zlr2h Tryz.f49 := ⟨by kernel_rfl, by kernel_rfl⟩

def ac_zuyoe : AC := (sr [oo 6 (.mv (cq false))] [0,1,2] (.seq (sr [mq 10 0,oo 11 (.len (tp 10) false),mq 12 1,oo 13 (.len (tp 12) false),oo 14 (.bin .neq (tp 11) (tp 13))] [0,1,2,14] (.cond (tp 14) (sr [oo 6 (.mv (cq false))] [6] .ret) .skip)) (.seq (sr [mq 15 0,oo 16 (.len (tp 15) false),oo 17 (.mv (ci 0))] [1,2,15,16,17] (.block 0 (.loop (sr [oo 18 (.bin .lss (tp 17) (tp 16))] [1,2,15,16,17,18] (.seq (.cond (tp 18) .skip (.exit 0)) (.seq (.block 1 (sr [mq 19 17,oo 20 (.idxA 9 (tp 15) (tp 17)),oo 21 (.load (some 9) (tp 20)),oo 8 (.alloc 71 [.pd (.raw (.string ⟨#[]⟩)),.pd (.raw (.int .i64 0)),.pd (.raw (.bool false)),.pd (.raw (.string ⟨#[]⟩)),.pd (.raw (.int .i64 0)),.pd (.raw (.string ⟨#[]⟩)),.pd (.raw (.string ⟨#[]⟩)),.pd (.raw (.int .i64 0)),.nils]),mq 7 19,.mk none none (.store 9 (tp 8) (tp 21))] [1,2,7,8,15,16,17] (sr [mq 22 1,mq 23 7,oo 24 (.idxA 9 (tp 22) (tp 23)),oo 25 (.load (some 9) (tp 24)),oo 9 (.alloc 71 [.pd (.raw (.string ⟨#[]⟩)),.pd (.raw (.int .i64 0)),.pd (.raw (.bool false)),.pd (.raw (.string ⟨#[]⟩)),.pd (.raw (.int .i64 0)),.pd (.raw (.string ⟨#[]⟩)),.pd (.raw (.string ⟨#[]⟩)),.pd (.raw (.int .i64 0)),.nils]),.mk none none (.store 9 (tp 9) (tp 25))] [1,2,8,9,15,16,17] (sr [mq 26 2,oo 27 (.load (some 9) (tp 8)),oo 28 (.load (some 9) (tp 9)),oo 29 (.callv (tp 26) [tp 27,tp 28]),oo 30 (.un .not (tp 29))] [1,2,15,16,17,30] (.cond (tp 30) (sr [oo 6 (.mv (cq false))] [6] .ret) .skip))))) (.region [oo 31 (.bin .add (tp 17) (ci 1)),mq 17 31] (some [1,2,15,16,17])))))))) (sr [oo 6 (.mv (cq true))] [6] .ret))))
def an_zuyoe : Ann := ann (List.range 11) ac_zuyoe
theorem ok_zuyoe : okd Tryz.prog an_zuyoe ac_zuyoe Tryz.f50 := ⟨by kernel_rfl, by kernel_rfl⟩

def ac_zi41r : AC := (sr [oo 6 (.mv (cq false))] [0,1,2] (.seq (sr [mq 10 0,oo 11 (.len (tp 10) false),mq 12 1,oo 13 (.len (tp 12) false),oo 14 (.bin .neq (tp 11) (tp 13))] [0,1,2,14] (.cond (tp 14) (sr [oo 6 (.mv (cq false))] [6] .ret) .skip)) (.seq (sr [mq 15 0,oo 16 (.len (tp 15) false),oo 17 (.mv (ci 0))] [1,2,15,16,17] (.block 0 (.loop (sr [oo 18 (.bin .lss (tp 17) (tp 16))] [1,2,15,16,17,18] (.seq (.cond (tp 18) .skip (.exit 0)) (.seq (.block 1 (sr [mq 19 17,oo 20 (.idxA 3 (tp 15) (tp 17)),oo 21 (.load (some 3) (tp 20)),oo 8 (.alloc 53 [.nils,.nils,.nils]),mq 7 19,.mk none none (.store 3 (tp 8) (tp 21))] [1,2,7,8,15,16,17] (sr [mq 22 1,mq 23 7,oo 24 (.idxA 3 (tp 22) (tp 23)),oo 25 (.load (some 3) (tp 24)),oo 9 (.alloc 53 [.nils,.nils,.nils]),.mk none none (.store 3 (tp 9) (tp 25))] [1,2,8,9,15,16,17] (sr [mq 26 2,oo 27 (.load (some 3) (tp 8)),oo 28 (.load (some 3) (tp 9)),oo 29 (.callv (tp 26) [tp 27,tp 28]),oo 30 (.un .not (tp 29))] [1,2,15,16,17,30] (.cond (tp 30) (sr [oo 6 (.mv (cq false))] [6] .ret) .skip))))) (.region [oo 31 (.bin .add (tp 17) (ci 1)),mq 17 31] (some [1,2,15,16,17])))))))) (sr [oo 6 (.mv (cq true))] [6] .ret))))
def an_zi41r : Ann := ann (List.range 11) ac_zi41r
theorem ok_zi41r : okd Tryz.prog an_zi41r ac_zi41r Tryz.f52 := ⟨by kernel_rfl, by kernel_rfl⟩

def ac_z5yno : AC := (sr [oo 5 (.box 85 (tp 2)),oo 6 (.mv (cq false))] [0,1,5] (sr [mq 7 0,oo 8 (.len (tp 7) false),mq 9 1,oo 10 (.bin .leq (tp 8) (tp 9)),mq 11 10,og 11 true 12 (.mv (tp 0)),og 11 true 13 (.mkfn 124 [tp 5]),og 11 true 14 (.call 123 [tp 12,tp 13]),og 11 true 15 (.un .not (tp 14)),oo 16 (.pick (tp 11) (tp 15) (cq false)),mq 6 16] [6] .ret))
def an_z5yno : Ann := ann (List.range 2) ac_z5yno
theorem ok_z5yno : okd Tryz.prog an_z5yno ac_z5yno Tryz.f77 := ⟨by kernel_rfl, by kernel_rfl⟩

def ac_zhfyj : AC := (sr [oo 2 (.mv (cq false))] [0] (.seq (sr [mq 4 0,oo 5 (.len (tp 4) false),oo 6 (.bin .sub (tp 5) (ci 1)),mq 3 6] [0,3] (.block 0 (.loop (.seq (sr [mq 7 3,oo 8 (.bin .gtr (tp 7) (ci 0))] [0,3,8] (.cond (tp 8) .skip (.exit 0))) (.seq (.block 1 (.seq (.draw [mq 11 0,mq 12 3,oo 13 (.idxA 1 (tp 11) (tp 12)),lq 14 13,mq 15 0,mq 16 3,oo 17 (.bin .sub (tp 16) (ci 1)),oo 18 (.idxA 1 (tp 15) (tp 17)),lq 19 18,oo 20 (.call 125 [tp 14,tp 19])] [0,0,3,7,0,0,32,112,240,511] (.take 0 (.take 1 (.take 2 (.take 3 (.take 4 (.take 5 (.take 6 (.take 7 (.take 8 (.alts (.cons 9 true .done .nil))))))))))) (some [0,3,20])) (.cond (tp 20) (sr [oo 2 (.mv (cq false))] [2] .ret) .skip))) (.region [mq 9 3,oo 10 (.bin .sub (tp 9) (ci 1)),mq 3 10] (some [0,3]))))))) (sr [oo 2 (.mv (cq true))] [2] .ret)))
def an_zhfyj : Ann := ann [0,1,2,4,5,3,6] ac_zhfyj
theorem ok_zhfyj : okd Tryz.prog an_zhfyj ac_zhfyj Tryz.f79 := ⟨by kernel_rfl, by kernel_rfl⟩

def ac_zb3kh : AC := (sr [oo 3 (.box 123 (tp 1)),oo 4 (.mv (cq false))] [0,3] (.seq (sr [mq 7 0,oo 8 (.len (tp 7) false),oo 9 (.mv (ci 0))] [0,3,7,8,9] (.block 0 (.loop (sr [oo 10 (.bin .lss (tp 9) (tp 8))] [0,3,7,8,9,10] (.seq (.cond (tp 10) .skip (.exit 0)) (.seq (.block 1 (sr [mq 11 9,oo 12 (.idxA 1 (tp 7) (tp 9)),lq 13 12,oo 6 (.alloc 3 [.pd (.raw (.int .i64 0))]),mq 5 11,.mk none none (.store 1 (tp 6) (tp 13))] [0,3,5,6,7,8,9] (sr [mq 14 0,mq 15 5,oo 16 (.slcL 1 (tp 14) none (some (tp 15))),oo 17 (.mkfn 126 [tp 3,tp 6]),oo 18 (.call 123 [tp 16,tp 17])] [0,3,7,8,9,18] (.cond (tp 18) (sr [oo 4 (.mv (cq true))] [4] .ret) .skip)))) (.region [oo 19 (.bin .add (tp 9) (ci 1)),mq 9 19] (some [0,3,7,8,9])))))))) (sr [oo 4 (.mv (cq false))] [4] .ret)))
def an_zb3kh : Ann := ann (List.range 8) ac_zb3kh
theorem ok_zb3kh : okd Tryz.prog an_zb3kh ac_zb3kh Tryz.f80 := ⟨by kernel_rfl, by kernel_rfl⟩

def ac_zpo9w : AC := (sr [oo 5 (.box 125 (tp 2)),oo 6 (.mv (cq false))] [0,1,5] (sr [mq 7 0,oo 8 (.len (tp 7) false),mq 9 1,oo 10 (.bin .leq (tp 8) (tp 9)),mq 11 10,og 11 true 12 (.mv (tp 0)),og 11 true 13 (.mkfn 128 [tp 5]),og 11 true 14 (.call 127 [tp 12,tp 13]),og 11 true 15 (.un .not (tp 14)),oo 16 (.pick (tp 11) (tp 15) (cq false)),mq 6 16] [6] .ret))
def an_zpo9w : Ann := ann (List.range 2) ac_zpo9w
theorem ok_zpo9w : okd Tryz.prog an_zpo9w ac_zpo9w Tryz.f83 := ⟨by kernel_rfl, by kernel_rfl⟩

def ac_zp700 : AC := (sr [oo 3 (.box 95 (tp 1)),oo 4 (.mv (cq false))] [0,3] (.seq (sr [mq 7 0,oo 8 (.len (tp 7) false),oo 9 (.mv (ci 0))] [0,3,7,8,9] (.block 0 (.loop (sr [oo 10 (.bin .lss (tp 9) (tp 8))] [0,3,7,8,9,10] (.seq (.cond (tp 10) .skip (.exit 0)) (.seq (.block 1 (sr [mq 11 9,oo 12 (.idxA 9 (tp 7) (tp 9)),oo 13 (.load (some 9) (tp 12)),oo 6 (.alloc 71 [.pd (.raw (.string ⟨#[]⟩)),.pd (.raw (.int .i64 0)),.pd (.raw (.bool false)),.pd (.raw (.string ⟨#[]⟩)),.pd (.raw (.int .i64 0)),.pd (.raw (.string ⟨#[]⟩)),.pd (.raw (.string ⟨#[]⟩)),.pd (.raw (.int .i64 0)),.nils]),mq 5 11,.mk none none (.store 9 (tp 6) (tp 13))] [0,3,5,6,7,8,9] (sr [mq 14 0,mq 15 5,oo 16 (.slcL 9 (tp 14) none (some (tp 15))),oo 17 (.mkfn 131 [tp 3,tp 6]),oo 18 (.call 127 [tp 16,tp 17])] [0,3,7,8,9,18] (.cond (tp 18) (sr [oo 4 (.mv (cq true))] [4] .ret) .skip)))) (.region [oo 19 (.bin .add (tp 9) (ci 1)),mq 9 19] (some [0,3,7,8,9])))))))) (sr [oo 4 (.mv (cq false))] [4] .ret)))
def an_zp700 : Ann := ann (List.range 8) ac_zp700
theorem ok_zp700 : okd Tryz.prog an_zp700 ac_zp700 Tryz.f85 := ⟨by kernel_rfl, by kernel_rfl⟩

def ac_zo7vn : AC := (sr [oo 3 (.box 128 (tp 1)),oo 4 (.mv (cq false))] [0,3] (.seq (sr [mq 7 0,oo 8 (.len (tp 7) false),oo 9 (.mv (ci 0))] [0,3,7,8,9] (.block 0 (.loop (sr [oo 10 (.bin .lss (tp 9) (tp 8))] [0,3,7,8,9,10] (.seq (.cond (tp 10) .skip (.exit 0)) (.seq (.block 1 (sr [mq 11 9,oo 12 (.idxA 4 (tp 7) (tp 9)),oo 13 (.load (some 4) (tp 12)),oo 6 (.alloc 48 [.pd (.raw (.string ⟨#[]⟩)),.pd (.raw (.string ⟨#[]⟩)),.pd (.raw (.string ⟨#[]⟩)),.pd (.raw (.int .i64 0))]),mq 5 11,.mk none none (.store 4 (tp 6) (tp 13))] [0,3,5,6,7,8,9] (sr [mq 14 0,mq 15 5,oo 16 (.slcL 4 (tp 14) none (some (tp 15))),oo 17 (.mkfn 133 [tp 3,tp 6]),oo 18 (.call 132 [tp 16,tp 17])] [0,3,7,8,9,18] (.cond (tp 18) (sr [oo 4 (.mv (cq true))] [4] .ret) .skip)))) (.region [oo 19 (.bin .add (tp 9) (ci 1)),mq 9 19] (some [0,3,7,8,9])))))))) (sr [oo 4 (.mv (cq false))] [4] .ret)))
def an_zo7vn : Ann := ann (List.range 8) ac_zo7vn
theorem ok_zo7vn : okd Tryz.prog an_zo7vn ac_zo7vn Tryz.f86 := ⟨by kernel_rfl, by kernel_rfl⟩

def ac_zogir : AC := (sr [oo 3 (.box 130 (tp 1)),oo 4 (.mv (cq false))] [0,3] (.seq (sr [mq 7 0,oo 8 (.len (tp 7) false),oo 9 (.mv (ci 0))] [0,3,7,8,9] (.block 0 (.loop (sr [oo 10 (.bin .lss (tp 9) (tp 8))] [0,3,7,8,9,10] (.seq (.cond (tp 10) .skip (.exit 0)) (.seq (.block 1 (sr [mq 11 9,oo 12 (.idxA 1 (tp 7) (tp 9)),lq 13 12,oo 6 (.alloc 9 [.pd (.raw (.string ⟨#[]⟩))]),mq 5 11,.mk none none (.store 1 (tp 6) (tp 13))] [0,3,5,6,7,8,9] (sr [mq 14 0,mq 15 5,oo 16 (.slcL 1 (tp 14) none (some (tp 15))),oo 17 (.mkfn 135 [tp 3,tp 6]),oo 18 (.call 134 [tp 16,tp 17])] [0,3,7,8,9,18] (.cond (tp 18) (sr [oo 4 (.mv (cq true))] [4] .ret) .skip)))) (.region [oo 19 (.bin .add (tp 9) (ci 1)),mq 9 19] (some [0,3,7,8,9])))))))) (sr [oo 4 (.mv (cq false))] [4] .ret)))
def an_zogir : Ann := ann (List.range 8) ac_zogir
theorem ok_zogir : okd Tryz.prog an_zogir ac_zogir Tryz.f88 := ⟨by kernel_rfl, by kernel_rfl⟩

def ac_zblzf : AC := (sr [oo 5 (.box 132 (tp 2)),oo 6 (.mv (cq false))] [0,1,5] (sr [mq 7 0,oo 8 (.len (tp 7) false),mq 9 1,oo 10 (.bin .leq (tp 8) (tp 9)),mq 11 10,og 11 true 12 (.mv (tp 0)),og 11 true 13 (.mkfn 137 [tp 5]),og 11 true 14 (.call 132 [tp 12,tp 13]),og 11 true 15 (.un .not (tp 14)),oo 16 (.pick (tp 11) (tp 15) (cq false)),mq 6 16] [6] .ret))
def an_zblzf : Ann := ann (List.range 2) ac_zblzf
theorem ok_zblzf : okd Tryz.prog an_zblzf ac_zblzf Tryz.f92 := ⟨by kernel_rfl, by kernel_rfl⟩

def ac_zch4 : AC := (sr [oo 5 (.box 114 (tp 2)),oo 6 (.mv (cq false))] [0,1,5] (sr [mq 7 0,oo 8 (.len (tp 7) false),mq 9 1,oo 10 (.bin .leq (tp 8) (tp 9)),mq 11 10,og 11 true 12 (.mv (tp 0)),og 11 true 13 (.mkfn 138 [tp 5]),og 11 true 14 (.call 134 [tp 12,tp 13]),og 11 true 15 (.un .not (tp 14)),oo 16 (.pick (tp 11) (tp 15) (cq false)),mq 6 16] [6] .ret))
def an_zch4 : Ann := ann (List.range 2) ac_zch4
theorem ok_zch4 : okd Tryz.prog an_zch4 ac_zch4 Tryz.f94 := ⟨by kernel_rfl, by kernel_rfl⟩

def ac_z2qr7 : AC := (sr [oo 5 (.box 135 (tp 2)),oo 6 (.mv (cq false))] [0,1,5] (sr [mq 7 0,oo 8 (.len (tp 7) false),mq 9 1,oo 10 (.bin .leq (tp 8) (tp 9)),mq 11 10,og 11 true 12 (.mv (tp 0)),og 11 true 13 (.mkfn 140 [tp 5]),og 11 true 14 (.call 139 [tp 12,tp 13]),og 11 true 15 (.un .not (tp 14)),oo 16 (.pick (tp 11) (tp 15) (cq false)),mq 6 16] [6] .ret))
def an_z2qr7 : Ann := ann (List.range 2) ac_z2qr7
theorem ok_z2qr7 : okd Tryz.prog an_z2qr7 ac_z2qr7 Tryz.f95 := ⟨by kernel_rfl, by kernel_rfl⟩

def ac_zqdfu : AC := (sr [oo 5 (.box 136 (tp 2)),oo 6 (.mv (cq false))] [0,1,5] (sr [mq 7 0,oo 8 (.len (tp 7) false),mq 9 1,oo 10 (.bin .leq (tp 8) (tp 9)),mq 11 10,og 11 true 12 (.mv (tp 0)),og 11 true 13 (.mkfn 147 [tp 5]),og 11 true 14 (.call 146 [tp 12,tp 13]),og 11 true 15 (.un .not (tp 14)),oo 16 (.pick (tp 11) (tp 15) (cq false)),mq 6 16] [6] .ret))
def an_zqdfu : Ann := ann (List.range 2) ac_zqdfu
theorem ok_zqdfu : okd Tryz.prog an_zqdfu ac_zqdfu Tryz.f99 := ⟨by kernel_rfl, by kernel_rfl⟩

def ac_zjaw1 : AC := (sr [oo 6 (.mv (cq false))] [0,1,2] (.seq (sr [mq 10 0,oo 11 (.len (tp 10) false),mq 12 1,oo 13 (.len (tp 12) false),oo 14 (.bin .neq (tp 11) (tp 13))] [0,1,2,14] (.cond (tp 14) (sr [oo 6 (.mv (cq false))] [6] .ret) .skip)) (.seq (sr [mq 15 0,oo 16 (.len (tp 15) false),oo 17 (.mv (ci 0))] [1,2,15,16,17] (.block 0 (.loop (sr [oo 18 (.bin .lss (tp 17) (tp 16))] [1,2,15,16,17,18] (.seq (.cond (tp 18) .skip (.exit 0)) (.seq (.block 1 (sr [mq 19 17,oo 20 (.idxA 5 (tp 15) (tp 17)),oo 21 (.load (some 5) (tp 20)),oo 8 (.alloc 77 [.pd (.raw (.int .i64 0)),.pd (.raw (.string ⟨#[]⟩)),.pd (.raw (.string ⟨#[]⟩)),.nils,.nils]),mq 7 19,.mk none none (.store 5 (tp 8) (tp 21))] [1,2,7,8,15,16,17] (sr [mq 22 1,mq 23 7,oo 24 (.idxA 5 (tp 22) (tp 23)),oo 25 (.load (some 5) (tp 24)),oo 9 (.alloc 77 [.pd (.raw (.int .i64 0)),.pd (.raw (.string ⟨#[]⟩)),.pd (.raw (.string ⟨#[]⟩)),.nils,.nils]),.mk none none (.store 5 (tp 9) (tp 25))] [1,2,8,9,15,16,17] (sr [mq 26 2,oo 27 (.load (some 5) (tp 8)),oo 28 (.load (some 5) (tp 9)),oo 29 (.callv (tp 26) [tp 27,tp 28]),oo 30 (.un .not (tp 29))] [1,2,15,16,17,30] (.cond (tp 30) (sr [oo 6 (.mv (cq false))] [6] .ret) .skip))))) (.region [oo 31 (.bin .add (tp 17) (ci 1)),mq 17 31] (some [1,2,15,16,17])))))))) (sr [oo 6 (.mv (cq true))] [6] .ret))))
def an_zjaw1 : Ann := ann (List.range 11) ac_zjaw1
theorem ok_zjaw1 : okd Tryz.prog an_zjaw1 ac_zjaw1 Tryz.f107 := ⟨by kernel_rfl, by kernel_rfl⟩

def ac_z7uuy : AC := (sr [oo 4 (.mv (cq false))] [0,1] (.seq (sr [mq 6 0,oo 7 (.len (tp 6) false),mq 8 1,oo 9 (.len (tp 8) false),oo 10 (.bin .neq (tp 7) (tp 9))] [0,1,10] (.cond (tp 10) (sr [oo 4 (.mv (cq false))] [4] .ret) .skip)) (.seq (sr [mq 11 0,oo 12 (.len (tp 11) false),oo 13 (.mv (ci 0))] [0,1,12,13] (.block 0 (.loop (sr [oo 14 (.bin .lss (tp 13) (tp 12))] [0,1,12,13,14] (.seq (.cond (tp 14) .skip (.exit 0)) (.seq (.block 1 (sr [mq 15 13,mq 5 15] [0,1,5,12,13] (.seq (.draw [mq 16 0,mq 17 5,oo 18 (.idxA 8 (tp 16) (tp 17)),oo 19 (.load (some 8) (tp 18)),mq 20 1,mq 21 5,oo 22 (.idxA 8 (tp 20) (tp 21)),oo 23 (.load (some 8) (tp 22)),oo 24 (.eqs true [.int,.str,.str,.str,.int,.str,.bool,.int] (tp 19) (tp 23))] [0,0,3,7,0,0,48,112,255] (.take 0 (.take 1 (.take 2 (.take 3 (.take 4 (.take 5 (.take 6 (.take 7 (.take 8 .done))))))))) (some [0,1,12,13,24])) (.cond (tp 24) (sr [oo 4 (.mv (cq false))] [4] .ret) .skip)))) (.region [oo 25 (.bin .add (tp 13) (ci 1)),mq 13 25] (some [0,1,12,13])))))))) (sr [oo 4 (.mv (cq true))] [4] .ret))))
def an_z7uuy : Ann := ann (List.range 10) ac_z7uuy
theorem ok_z7uuy : okd Tryz.prog an_z7uuy ac_z7uuy Tryz.f109 := ⟨by kernel_rfl, by kernel_rfl⟩

def ac_ztr0f : AC := (sr [oo 4 (.mv (cq false))] [0,1] (.seq (sr [mq 6 0,oo 7 (.len (tp 6) false),mq 8 1,oo 9 (.len (tp 8) false),oo 10 (.bin .neq (tp 7) (tp 9))] [0,1,10] (.cond (tp 10) (sr [oo 4 (.mv (cq false))] [4] .ret) .skip)) (.seq (sr [mq 11 0,oo 12 (.len (tp 11) false),oo 13 (.mv (ci 0))] [0,1,12,13] (.block 0 (.loop (sr [oo 14 (.bin .lss (tp 13) (tp 12))] [0,1,12,13,14] (.seq (.cond (tp 14) .skip (.exit 0)) (.seq (.block 1 (sr [mq 15 13,mq 5 15] [0,1,5,12,13] (.seq (.draw [mq 16 0,mq 17 5,oo 18 (.idxA 5 (tp 16) (tp 17)),oo 19 (.load (some 5) (tp 18)),mq 20 1,mq 21 5,oo 22 (.idxA 5 (tp 20) (tp 21)),oo 23 (.load (some 5) (tp 22)),oo 24 (.eqs true [.int,.str,.str,.int,.int] (tp 19) (tp 23))] [0,0,3,7,0,0,48,112,255] (.take 0 (.take 1 (.take 2 (.take 3 (.take 4 (.take 5 (.take 6 (.take 7 (.take 8 .done))))))))) (some [0,1,12,13,24])) (.cond (tp 24) (sr [oo 4 (.mv (cq false))] [4] .ret) .skip)))) (.region [oo 25 (.bin .add (tp 13) (ci 1)),mq 13 25] (some [0,1,12,13])))))))) (sr [oo 4 (.mv (cq true))] [4] .ret))))
def an_ztr0f : Ann := ann (List.range 10) ac_ztr0f
theorem ok_ztr0f : okd Tryz.prog an_ztr0f ac_ztr0f Tryz.f110 := ⟨by kernel_rfl, by kernel_rfl⟩

def ac_z2spj : AC := (sr [oo 4 (.mv (cq false))] [0,1] (sr [mq 5 0,mq 6 1,oo 7 (.call 167 [tp 5,tp 6]),oo 8 (.bin .geq (tp 7) (ci 0)),mq 4 8] [4] .ret))
def an_z2spj : Ann := ann (List.range 2) ac_z2spj
theorem ok_z2spj : okd Tryz.prog an_z2spj ac_z2spj Tryz.f123 := ⟨by kernel_rfl, by kernel_rfl⟩

def ac_zkvy2 : AC := (sr [oo 3 (.mv (cq false))] [0,1] (sr [lq 4 1,mq 5 0,oo 6 (.callv (tp 4) [tp 5]),oo 7 (.un .not (tp 6)),mq 3 7] [3] .ret))
def an_zkvy2 : Ann := ann (List.range 2) ac_zkvy2
theorem ok_zkvy2 : okd Tryz.prog an_zkvy2 ac_zkvy2 Tryz.f124 := ⟨by kernel_rfl, by kernel_rfl⟩

def ac_zovpw : AC := (sr [oo 4 (.mv (cq false))] [0,1,2] (sr [lq 5 1,lq 6 2,mq 7 0,oo 8 (.callv (tp 5) [tp 6,tp 7]),mq 4 8] [4] .ret))
def an_zovpw : Ann := ann (List.range 2) ac_zovpw
theorem ok_zovpw : okd Tryz.prog an_zovpw ac_zovpw Tryz.f126 := ⟨by kernel_rfl, by kernel_rfl⟩

def ac_zosgm : AC := (sr [oo 4 (.mv (cq false))] [0,1] (sr [mq 5 0,mq 6 1,oo 7 (.call 168 [tp 5,tp 6]),oo 8 (.bin .geq (tp 7) (ci 0)),mq 4 8] [4] .ret))
def an_zosgm : Ann := ann (List.range 2) ac_zosgm
theorem ok_zosgm : okd Tryz.prog an_zosgm ac_zosgm Tryz.f127 := ⟨by kernel_rfl, by kernel_rfl⟩

def ac_zir97 : AC := (sr [oo 2 (.box 71 (tp 0)),oo 3 (.mv (cq false))] [1,2] (sr [lq 4 1,oo 5 (.load (some 9) (tp 2)),oo 6 (.callv (tp 4) [tp 5]),oo 7 (.un .not (tp 6)),mq 3 7] [3] .ret))
def an_zir97 : Ann := ann (List.range 2) ac_zir97
theorem ok_zir97 : okd Tryz.prog an_zir97 ac_zir97 Tryz.f128 := ⟨by kernel_rfl, by kernel_rfl⟩

def ac_ztyjm : AC := (sr [oo 3 (.box 71 (tp 0)),oo 4 (.mv (cq false))] [1,2,3] (sr [lq 5 1,oo 6 (.load (some 9) (tp 2)),oo 7 (.load (some 9) (tp 3)),oo 8 (.callv (tp 5) [tp 6,tp 7]),mq 4 8] [4] .ret))
def an_ztyjm : Ann := ann (List.range 2) ac_ztyjm
theorem ok_ztyjm : okd Tryz.prog an_ztyjm ac_ztyjm Tryz.f131 := ⟨by kernel_rfl, by kernel_rfl⟩

def ac_zic3s : AC := (sr [oo 4 (.mv (cq false))] [0,1] (sr [mq 5 0,mq 6 1,oo 7 (.call 172 [tp 5,tp 6]),oo 8 (.bin .geq (tp 7) (ci 0)),mq 4 8] [4] .ret))
def an_zic3s : Ann := ann (List.range 2) ac_zic3s
theorem ok_zic3s : okd Tryz.prog an_zic3s ac_zic3s Tryz.f132 := ⟨by kernel_rfl, by kernel_rfl⟩

def ac_z6aq8 : AC := (sr [oo 3 (.box 48 (tp 0)),oo 4 (.mv (cq false))] [1,2,3] (sr [lq 5 1,oo 6 (.load (some 4) (tp 2)),oo 7 (.load (some 4) (tp 3)),oo 8 (.callv (tp 5) [tp 6,tp 7]),mq 4 8] [4] .ret))
def an_z6aq8 : Ann := ann (List.range 2) ac_z6aq8
theorem ok_z6aq8 : okd Tryz.prog an_z6aq8 ac_z6aq8 Tryz.f133 := ⟨by kernel_rfl, by kernel_rfl⟩

def ac_zyx5 : AC := (sr [oo 4 (.mv (cq false))] [0,1] (sr [mq 5 0,mq 6 1,oo 7 (.call 173 [tp 5,tp 6]),oo 8 (.bin .geq (tp 7) (ci 0)),mq 4 8] [4] .ret))
def an_zyx5 : Ann := ann (List.range 2) ac_zyx5
theorem ok_zyx5 : okd Tryz.prog an_zyx5 ac_zyx5 Tryz.f134 := ⟨by kernel_rfl, by kernel_rfl⟩

def ac_zwcip : AC := (sr [oo 4 (.mv (cq false))] [0,1,2] (sr [lq 5 1,lq 6 2,mq 7 0,oo 8 (.callv (tp 5) [tp 6,tp 7]),mq 4 8] [4] .ret))
def an_zwcip : Ann := ann (List.range 2) ac_zwcip
theorem ok_zwcip : okd Tryz.prog an_zwcip ac_zwcip Tryz.f135 := ⟨by kernel_rfl, by kernel_rfl⟩

def ac_z31hg : AC := (sr [oo 2 (.box 48 (tp 0)),oo 3 (.mv (cq false))] [1,2] (sr [lq 4 1,oo 5 (.load (some 4) (tp 2)),oo 6 (.callv (tp 4) [tp 5]),oo 7 (.un .not (tp 6)),mq 3 7] [3] .ret))
def an_z31hg : Ann := ann (List.range 2) ac_z31hg
theorem ok_z31hg : okd Tryz.prog an_z31hg ac_z31hg Tryz.f137 := ⟨by kernel_rfl, by kernel_rfl⟩

def ac_z1wya : AC := (sr [oo 3 (.mv (cq false))] [0,1] (sr [lq 4 1,mq 5 0,oo 6 (.callv (tp 4) [tp 5]),oo 7 (.un .not (tp 6)),mq 3 7] [3] .ret))
def an_z1wya : Ann := ann (List.range 2) ac_z1wya
theorem ok_z1wya : okd Tryz.prog an_z1wya ac_z1wya Tryz.f138 := ⟨by kernel_rfl, by kernel_rfl⟩

def ac_zwd90 : AC := (sr [oo 4 (.mv (cq false))] [0,1] (sr [mq 5 0,mq 6 1,oo 7 (.call 175 [tp 5,tp 6]),oo 8 (.bin .geq (tp 7) (ci 0)),mq 4 8] [4] .ret))
def an_zwd90 : Ann := ann (List.range 2) ac_zwd90
theorem ok_zwd90 : okd Tryz.prog an_zwd90 ac_zwd90 Tryz.f139 := ⟨by kernel_rfl, by kernel_rfl⟩

def ac_z8keb : AC := (sr [oo 2 (.box 53 (tp 0)),oo 3 (.mv (cq false))] [1,2] (sr [lq 4 1,oo 5 (.load (some 3) (tp 2)),oo 6 (.callv (tp 4) [tp 5]),oo 7 (.un .not (tp 6)),mq 3 7] [3] .ret))
def an_z8keb : Ann := ann (List.range 2) ac_z8keb
theorem ok_z8keb : okd Tryz.prog an_z8keb ac_z8keb Tryz.f140 := ⟨by kernel_rfl, by kernel_rfl⟩

def ac_ziqd0 : AC := (sr [oo 5 (.box 161 (tp 2)),oo 6 (.mv (cq false))] [0,1,5] (sr [mq 7 0,oo 8 (.len (tp 7) false),mq 9 1,oo 10 (.bin .leq (tp 8) (tp 9)),mq 11 10,og 11 true 12 (.mv (tp 0)),og 11 true 13 (.mkfn 177 [tp 5]),og 11 true 14 (.call 176 [tp 12,tp 13]),og 11 true 15 (.un .not (tp 14)),oo 16 (.pick (tp 11) (tp 15) (cq false)),mq 6 16] [6] .ret))
def an_ziqd0 : Ann := ann (List.range 2) ac_ziqd0
theorem ok_ziqd0 : okd Tryz.prog an_ziqd0 ac_ziqd0 Tryz.f141 := ⟨by kernel_rfl, by kernel_rfl⟩

def ac_zb5o4 : AC := (sr [oo 5 (.box 164 (tp 2)),oo 6 (.mv (cq false))] [0,1,5] (sr [mq 7 0,oo 8 (.len (tp 7) false),mq 9 1,oo 10 (.bin .leq (tp 8) (tp 9)),mq 11 10,og 11 true 12 (.mv (tp 0)),og 11 true 13 (.mkfn 193 [tp 5]),og 11 true 14 (.call 192 [tp 12,tp 13]),og 11 true 15 (.un .not (tp 14)),oo 16 (.pick (tp 11) (tp 15) (cq false)),mq 6 16] [6] .ret))
def an_zb5o4 : Ann := ann (List.range 2) ac_zb5o4
theorem ok_zb5o4 : okd Tryz.prog an_zb5o4 ac_zb5o4 Tryz.f144 := ⟨by kernel_rfl, by kernel_rfl⟩

def ac_zkgk0 : AC := (sr [oo 4 (.mv (cq false))] [0,1] (sr [mq 5 0,mq 6 1,oo 7 (.call 194 [tp 5,tp 6]),oo 8 (.bin .geq (tp 7) (ci 0)),mq 4 8] [4] .ret))
def an_zkgk0 : Ann := ann (List.range 2) ac_zkgk0
theorem ok_zkgk0 : okd Tryz.prog an_zkgk0 ac_zkgk0 Tryz.f146 := ⟨by kernel_rfl, by kernel_rfl⟩

def ac_z7q8a : AC := (sr [oo 2 (.box 93 (tp 0)),oo 3 (.mv (cq false))] [1,2] (sr [lq 4 1,oo 5 (.load (some 3) (tp 2)),oo 6 (.callv (tp 4) [tp 5]),oo 7 (.un .not (tp 6)),mq 3 7] [3] .ret))
def an_z7q8a : Ann := ann (List.range 2) ac_z7q8a
theorem ok_z7q8a : okd Tryz.prog an_z7q8a ac_z7q8a Tryz.f147 := ⟨by kernel_rfl, by kernel_rfl⟩

def ac_zdsnp : AC := (sr [oo 6 (.mv (cq false))] [0,1,2] (.seq (sr [mq 10 0,oo 11 (.len (tp 10) false),mq 12 1,oo 13 (.len (tp 12) false),oo 14 (.bin .neq (tp 11) (tp 13))] [0,1,2,14] (.cond (tp 14) (sr [oo 6 (.mv (cq false))] [6] .ret) .skip)) (.seq (sr [mq 15 0,oo 16 (.len (tp 15) false),oo 17 (.mv (ci 0))] [1,2,15,16,17] (.block 0 (.loop (sr [oo 18 (.bin .lss (tp 17) (tp 16))] [1,2,15,16,17,18] (.seq (.cond (tp 18) .skip (.exit 0)) (.seq (.block 1 (sr [mq 19 17,oo 20 (.idxA 3 (tp 15) (tp 17)),oo 21 (.load (some 3) (tp 20)),oo 8 (.alloc 116 [.pd (.raw (.int .i64 0)),.pd (.raw (.string ⟨#[]⟩)),.nils]),mq 7 19,.mk none none (.store 3 (tp 8) (tp 21))] [1,2,7,8,15,16,17] (sr [mq 22 1,mq 23 7,oo 24 (.idxA 3 (tp 22) (tp 23)),oo 25 (.load (some 3) (tp 24)),oo 9 (.alloc 116 [.pd (.raw (.int .i64 0)),.pd (.raw (.string ⟨#[]⟩)),.nils]),.mk none none (.store 3 (tp 9) (tp 25))] [1,2,8,9,15,16,17] (sr [mq 26 2,oo 27 (.load (some 3) (tp 8)),oo 28 (.load (some 3) (tp 9)),oo 29 (.callv (tp 26) [tp 27,tp 28]),oo 30 (.un .not (tp 29))] [1,2,15,16,17,30] (.cond (tp 30) (sr [oo 6 (.mv (cq false))] [6] .ret) .skip))))) (.region [oo 31 (.bin .add (tp 17) (ci 1)),mq 17 31] (some [1,2,15,16,17])))))))) (sr [oo 6 (.mv (cq true))] [6] .ret))))
def an_zdsnp : Ann := ann (List.range 11) ac_zdsnp
theorem ok_zdsnp : okd Tryz.prog an_zdsnp ac_zdsnp Tryz.f152 := ⟨by kernel_rfl, by kernel_rfl⟩

def ac_zrckh : AC := (sr [oo 4 (.mv (ci 0))] [0,1] (.seq (sr [mq 6 0,oo 7 (.len (tp 6) false),oo 8 (.mv (ci 0))] [0,1,7,8] (.block 0 (.loop (sr [oo 9 (.bin .lss (tp 8) (tp 7))] [0,1,7,8,9] (.seq (.cond (tp 9) .skip (.exit 0)) (.seq (.block 1 (sr [mq 10 8,mq 5 10] [0,1,5,7,8] (sr [mq 11 1,mq 12 0,mq 13 5,oo 14 (.idxA 1 (tp 12) (tp 13)),lq 15 14,oo 16 (.callv (tp 11) [tp 15])] [0,1,5,7,8,16] (.cond (tp 16) (sr [mq 17 5,mq 4 17] [4] .ret) .skip)))) (.region [oo 18 (.bin .add (tp 8) (ci 1)),mq 8 18] (some [0,1,7,8])))))))) (sr [oo 4 (.mv (ci (-1)))] [4] .ret)))
def an_zrckh : Ann := ann (List.range 8) ac_zrckh
theorem ok_zrckh : okd Tryz.prog an_zrckh ac_zrckh Tryz.f167 := ⟨by kernel_rfl, by kernel_rfl⟩

def ac_z3tfr : AC := (sr [oo 4 (.mv (ci 0))] [0,1] (.seq (sr [mq 6 0,oo 7 (.len (tp 6) false),oo 8 (.mv (ci 0))] [0,1,7,8] (.block 0 (.loop (sr [oo 9 (.bin .lss (tp 8) (tp 7))] [0,1,7,8,9] (.seq (.cond (tp 9) .skip (.exit 0)) (.seq (.block 1 (sr [mq 10 8,mq 5 10] [0,1,5,7,8] (sr [mq 11 1,mq 12 0,mq 13 5,oo 14 (.idxA 9 (tp 12) (tp 13)),oo 15 (.load (some 9) (tp 14)),oo 16 (.callv (tp 11) [tp 15])] [0,1,5,7,8,16] (.cond (tp 16) (sr [mq 17 5,mq 4 17] [4] .ret) .skip)))) (.region [oo 18 (.bin .add (tp 8) (ci 1)),mq 8 18] (some [0,1,7,8])))))))) (sr [oo 4 (.mv (ci (-1)))] [4] .ret)))
def an_z3tfr : Ann := ann (List.range 8) ac_z3tfr
theorem ok_z3tfr : okd Tryz.prog an_z3tfr ac_z3tfr Tryz.f168 := ⟨by kernel_rfl, by kernel_rfl⟩

def ac_zy4fu : AC := (sr [oo 4 (.mv (cq false))] [0,1] (sr [mq 5 0,mq 6 1,oo 7 (.call 211 [tp 5,tp 6]),oo 8 (.bin .geq (tp 7) (ci 0)),mq 4 8] [4] .ret))
def an_zy4fu : Ann := ann (List.range 2) ac_zy4fu
theorem ok_zy4fu : okd Tryz.prog an_zy4fu ac_zy4fu Tryz.f169 := ⟨by kernel_rfl, by kernel_rfl⟩

def ac_zwjxg : AC := (sr [oo 4 (.mv (ci 0))] [0,1] (.seq (sr [mq 6 0,oo 7 (.len (tp 6) false),oo 8 (.mv (ci 0))] [0,1,7,8] (.block 0 (.loop (sr [oo 9 (.bin .lss (tp 8) (tp 7))] [0,1,7,8,9] (.seq (.cond (tp 9) .skip (.exit 0)) (.seq (.block 1 (sr [mq 10 8,mq 5 10] [0,1,5,7,8] (sr [mq 11 1,mq 12 0,mq 13 5,oo 14 (.idxA 4 (tp 12) (tp 13)),oo 15 (.load (some 4) (tp 14)),oo 16 (.callv (tp 11) [tp 15])] [0,1,5,7,8,16] (.cond (tp 16) (sr [mq 17 5,mq 4 17] [4] .ret) .skip)))) (.region [oo 18 (.bin .add (tp 8) (ci 1)),mq 8 18] (some [0,1,7,8])))))))) (sr [oo 4 (.mv (ci (-1)))] [4] .ret)))
def an_zwjxg : Ann := ann (List.range 8) ac_zwjxg
theorem ok_zwjxg : okd Tryz.prog an_zwjxg ac_zwjxg Tryz.f172 := ⟨by kernel_rfl, by kernel_rfl⟩

def ac_zski5 : AC := (sr [oo 4 (.mv (ci 0))] [0,1] (.seq (sr [mq 6 0,oo 7 (.len (tp 6) false),oo 8 (.mv (ci 0))] [0,1,7,8] (.block 0 (.loop (sr [oo 9 (.bin .lss (tp 8) (tp 7))] [0,1,7,8,9] (.seq (.cond (tp 9) .skip (.exit 0)) (.seq (.block 1 (sr [mq 10 8,mq 5 10] [0,1,5,7,8] (sr [mq 11 1,mq 12 0,mq 13 5,oo 14 (.idxA 1 (tp 12) (tp 13)),lq 15 14,oo 16 (.callv (tp 11) [tp 15])] [0,1,5,7,8,16] (.cond (tp 16) (sr [mq 17 5,mq 4 17] [4] .ret) .skip)))) (.region [oo 18 (.bin .add (tp 8) (ci 1)),mq 8 18] (some [0,1,7,8])))))))) (sr [oo 4 (.mv (ci (-1)))] [4] .ret)))
def an_zski5 : Ann := ann (List.range 8) ac_zski5
theorem ok_zski5 : okd Tryz.prog an_zski5 ac_zski5 Tryz.f173 := ⟨by kernel_rfl, by kernel_rfl⟩

def ac_zwh23 : AC := (sr [oo 4 (.mv (ci 0))] [0,1] (.seq (sr [mq 6 0,oo 7 (.len (tp 6) false),oo 8 (.mv (ci 0))] [0,1,7,8] (.block 0 (.loop (sr [oo 9 (.bin .lss (tp 8) (tp 7))] [0,1,7,8,9] (.seq (.cond (tp 9) .skip (.exit 0)) (.seq (.block 1 (sr [mq 10 8,mq 5 10] [0,1,5,7,8] (sr [mq 11 1,mq 12 0,mq 13 5,oo 14 (.idxA 3 (tp 12) (tp 13)),oo 15 (.load (some 3) (tp 14)),oo 16 (.callv (tp 11) [tp 15])] [0,1,5,7,8,16] (.cond (tp 16) (sr [mq 17 5,mq 4 17] [4] .ret) .skip)))) (.region [oo 18 (.bin .add (tp 8) (ci 1)),mq 8 18] (some [0,1,7,8])))))))) (sr [oo 4 (.mv (ci (-1)))] [4] .ret)))
def an_zwh23 : Ann := ann (List.range 8) ac_zwh23
theorem ok_zwh23 : okd Tryz.prog an_zwh23 ac_zwh23 Tryz.f175 := ⟨by kernel_rfl, by kernel_rfl⟩

def ac_zmyh8 : AC := (sr [oo 4 (.mv (cq false))] [0,1] (sr [mq 5 0,mq 6 1,oo 7 (.call 214 [tp 5,tp 6]),oo 8 (.bin .geq (tp 7) (ci 0)),mq 4 8] [4] .ret))
def an_zmyh8 : Ann := ann (List.range 2) ac_zmyh8
theorem ok_zmyh8 : okd Tryz.prog an_zmyh8 ac_zmyh8 Tryz.f176 := ⟨by kernel_rfl, by kernel_rfl⟩

def ac_z7wca : AC := (sr [oo 2 (.box 77 (tp 0)),oo 3 (.mv (cq false))] [1,2] (sr [lq 4 1,oo 5 (.load (some 5) (tp 2)),oo 6 (.callv (tp 4) [tp 5]),oo 7 (.un .not (tp 6)),mq 3 7] [3] .ret))
def an_z7wca : Ann := ann (List.range 2) ac_z7wca
theorem ok_z7wca : okd Tryz.prog an_z7wca ac_z7wca Tryz.f177 := ⟨by kernel_rfl, by kernel_rfl⟩

def ac_zr7hm : AC := (sr [oo 4 (.mv (cq false))] [0,1] (sr [mq 5 0,mq 6 1,oo 7 (.call 220 [tp 5,tp 6]),oo 8 (.bin .geq (tp 7) (ci 0)),mq 4 8] [4] .ret))
def an_zr7hm : Ann := ann (List.range 2) ac_zr7hm
theorem ok_zr7hm : okd Tryz.prog an_zr7hm ac_zr7hm Tryz.f183 := ⟨by kernel_rfl, by kernel_rfl⟩

def ac_zi3lv : AC := (sr [oo 4 (.mv (cq false))] [0,1] (sr [mq 5 0,mq 6 1,oo 7 (.call 224 [tp 5,tp 6]),oo 8 (.bin .geq (tp 7) (ci 0)),mq 4 8] [4] .ret))
def an_zi3lv : Ann := ann (List.range 2) ac_zi3lv
theorem ok_zi3lv : okd Tryz.prog an_zi3lv ac_zi3lv Tryz.f191 := ⟨by kernel_rfl, by kernel_rfl⟩

def ac_z7rwg : AC := (sr [oo 4 (.mv (cq false))] [0,1] (sr [mq 5 0,mq 6 1,oo 7 (.call 225 [tp 5,tp 6]),oo 8 (.bin .geq (tp 7) (ci 0)),mq 4 8] [4] .ret))
def an_z7rwg : Ann := ann (List.range 2) ac_z7rwg
theorem ok_z7rwg : okd Tryz.prog an_z7rwg ac_z7rwg Tryz.f192 := ⟨by kernel_rfl, by kernel_rfl⟩

def ac_zi55u : AC := (sr [oo 2 (.box 55 (tp 0)),oo 3 (.mv (cq false))] [1,2] (sr [lq 4 1,oo 5 (.load (some 5) (tp 2)),oo 6 (.callv (tp 4) [tp 5]),oo 7 (.un .not (tp 6)),mq 3 7] [3] .ret))
def an_zi55u : Ann := ann (List.range 2) ac_zi55u
theorem ok_zi55u : okd Tryz.prog an_zi55u ac_zi55u Tryz.f193 := ⟨by kernel_rfl, by kernel_rfl⟩

def ac_zhz8f : AC := (sr [oo 4 (.mv (ci 0))] [0,1] (.seq (sr [mq 6 0,oo 7 (.len (tp 6) false),oo 8 (.mv (ci 0))] [0,1,7,8] (.block 0 (.loop (sr [oo 9 (.bin .lss (tp 8) (tp 7))] [0,1,7,8,9] (.seq (.cond (tp 9) .skip (.exit 0)) (.seq (.block 1 (sr [mq 10 8,mq 5 10] [0,1,5,7,8] (sr [mq 11 1,mq 12 0,mq 13 5,oo 14 (.idxA 3 (tp 12) (tp 13)),oo 15 (.load (some 3) (tp 14)),oo 16 (.callv (tp 11) [tp 15])] [0,1,5,7,8,16] (.cond (tp 16) (sr [mq 17 5,mq 4 17] [4] .ret) .skip)))) (.region [oo 18 (.bin .add (tp 8) (ci 1)),mq 8 18] (some [0,1,7,8])))))))) (sr [oo 4 (.mv (ci (-1)))] [4] .ret)))
def an_zhz8f : Ann := ann (List.range 8) ac_zhz8f
theorem ok_zhz8f : okd Tryz.prog an_zhz8f ac_zhz8f Tryz.f194 := ⟨by kernel_rfl, by kernel_rfl⟩

def ac_zijlh : AC := (sr [oo 4 (.mv (ci 0))] [0,1] (.seq (sr [mq 6 0,oo 7 (.len (tp 6) false),oo 8 (.mv (ci 0))] [0,1,7,8] (.block 0 (.loop (sr [oo 9 (.bin .lss (tp 8) (tp 7))] [0,1,7,8,9] (.seq (.cond (tp 9) .skip (.exit 0)) (.seq (.block 1 (sr [mq 10 8,mq 5 10] [0,1,5,7,8] (sr [mq 11 1,mq 12 0,mq 13 5,oo 14 (.idxA 3 (tp 12) (tp 13)),oo 15 (.load (some 3) (tp 14)),oo 16 (.callv (tp 11) [tp 15])] [0,1,5,7,8,16] (.cond (tp 16) (sr [mq 17 5,mq 4 17] [4] .ret) .skip)))) (.region [oo 18 (.bin .add (tp 8) (ci 1)),mq 8 18] (some [0,1,7,8])))))))) (sr [oo 4 (.mv (ci (-1)))] [4] .ret)))
def an_zijlh : Ann := ann (List.range 8) ac_zijlh
theorem ok_zijlh : okd Tryz.prog an_zijlh ac_zijlh Tryz.f211 := ⟨by kernel_rfl, by kernel_rfl⟩

def ac_zsjmp : AC := (sr [oo 4 (.mv (ci 0))] [0,1] (.seq (sr [mq 6 0,oo 7 (.len (tp 6) false),oo 8 (.mv (ci 0))] [0,1,7,8] (.block 0 (.loop (sr [oo 9 (.bin .lss (tp 8) (tp 7))] [0,1,7,8,9] (.seq (.cond (tp 9) .skip (.exit 0)) (.seq (.block 1 (sr [mq 10 8,mq 5 10] [0,1,5,7,8] (sr [mq 11 1,mq 12 0,mq 13 5,oo 14 (.idxA 5 (tp 12) (tp 13)),oo 15 (.load (some 5) (tp 14)),oo 16 (.callv (tp 11) [tp 15])] [0,1,5,7,8,16] (.cond (tp 16) (sr [mq 17 5,mq 4 17] [4] .ret) .skip)))) (.region [oo 18 (.bin .add (tp 8) (ci 1)),mq 8 18] (some [0,1,7,8])))))))) (sr [oo 4 (.mv (ci (-1)))] [4] .ret)))
def an_zsjmp : Ann := ann (List.range 8) ac_zsjmp
theorem ok_zsjmp : okd Tryz.prog an_zsjmp ac_zsjmp Tryz.f214 := ⟨by kernel_rfl, by kernel_rfl⟩

def ac_zdecl : AC := (sr [oo 4 (.mv (ci 0))] [0,1] (.seq (sr [mq 6 0,oo 7 (.len (tp 6) false),oo 8 (.mv (ci 0))] [0,1,7,8] (.block 0 (.loop (sr [oo 9 (.bin .lss (tp 8) (tp 7))] [0,1,7,8,9] (.seq (.cond (tp 9) .skip (.exit 0)) (.seq (.block 1 (sr [mq 10 8,mq 5 10] [0,1,5,7,8] (sr [mq 11 1,mq 12 0,mq 13 5,oo 14 (.idxA 2 (tp 12) (tp 13)),oo 15 (.load (some 2) (tp 14)),oo 16 (.callv (tp 11) [tp 15])] [0,1,5,7,8,16] (.cond (tp 16) (sr [mq 17 5,mq 4 17] [4] .ret) .skip)))) (.region [oo 18 (.bin .add (tp 8) (ci 1)),mq 8 18] (some [0,1,7,8])))))))) (sr [oo 4 (.mv (ci (-1)))] [4] .ret)))
def an_zdecl : Ann := ann (List.range 8) ac_zdecl
theorem ok_zdecl : okd Tryz.prog an_zdecl ac_zdecl Tryz.f220 := ⟨by kernel_rfl, by kernel_rfl⟩

def ac_zwgkv : AC := (sr [oo 4 (.mv (ci 0))] [0,1] (.seq (sr [mq 6 0,oo 7 (.len (tp 6) false),oo 8 (.mv (ci 0))] [0,1,7,8] (.block 0 (.loop (sr [oo 9 (.bin .lss (tp 8) (tp 7))] [0,1,7,8,9] (.seq (.cond (tp 9) .skip (.exit 0)) (.seq (.block 1 (sr [mq 10 8,mq 5 10] [0,1,5,7,8] (sr [mq 11 1,mq 12 0,mq 13 5,oo 14 (.idxA 8 (tp 12) (tp 13)),oo 15 (.load (some 8) (tp 14)),oo 16 (.callv (tp 11) [tp 15])] [0,1,5,7,8,16] (.cond (tp 16) (sr [mq 17 5,mq 4 17] [4] .ret) .skip)))) (.region [oo 18 (.bin .add (tp 8) (ci 1)),mq 8 18] (some [0,1,7,8])))))))) (sr [oo 4 (.mv (ci (-1)))] [4] .ret)))
def an_zwgkv : Ann := ann (List.range 8) ac_zwgkv
theorem ok_zwgkv : okd Tryz.prog an_zwgkv ac_zwgkv Tryz.f224 := ⟨by kernel_rfl, by kernel_rfl⟩

def ac_zbcsd : AC := (sr [oo 4 (.mv (ci 0))] [0,1] (.seq (sr [mq 6 0,oo 7 (.len (tp 6) false),oo 8 (.mv (ci 0))] [0,1,7,8] (.block 0 (.loop (sr [oo 9 (.bin .lss (tp 8) (tp 7))] [0,1,7,8,9] (.seq (.cond (tp 9) .skip (.exit 0)) (.seq (.block 1 (sr [mq 10 8,mq 5 10] [0,1,5,7,8] (sr [mq 11 1,mq 12 0,mq 13 5,oo 14 (.idxA 5 (tp 12) (tp 13)),oo 15 (.load (some 5) (tp 14)),oo 16 (.callv (tp 11) [tp 15])] [0,1,5,7,8,16] (.cond (tp 16) (sr [mq 17 5,mq 4 17] [4] .ret) .skip)))) (.region [oo 18 (.bin .add (tp 8) (ci 1)),mq 8 18] (some [0,1,7,8])))))))) (sr [oo 4 (.mv (ci (-1)))] [4] .ret)))
def an_zbcsd : Ann := ann (List.range 8) ac_zbcsd
theorem ok_zbcsd : okd Tryz.prog an_zbcsd ac_zbcsd Tryz.f225 := ⟨by kernel_rfl, by kernel_rfl⟩


def ac_zfwje : AC := (sr [oo 1 (.box 32 (tp 0)),oo 2 (.mv (cq false))] [1] (sr [oo 5 .mkmap,.mk none none (.mset [] (tp 5) (ci 1) (.func 34)),.mk none none (.mset [] (tp 5) (ci 2) (.func 35)),.mk none none (.mset [] (tp 5) (ci 3) (.func 36)),.mk none none (.mset [] (tp 5) (ci 4) (.func 34)),.mk none none (.mset [] (tp 5) (ci 5) (.func 37)),.mk none none (.mset [] (tp 5) (ci 6) (.func 38)),.mk none none (.mset [] (tp 5) (ci 7) (.func 39)),mq 6 5,mq 3 6] [1,3] (sr [oo 7 (.load (some 13) (tp 1)),oo 8 (.build [.pd (.raw (.int .i64 0)),.pd (.raw (.string ⟨#[]⟩)),.pd (.raw (.string ⟨#[]⟩)),.pd (.raw (.bool false)),.nils,.nils,.pd (.raw (.string ⟨#[]⟩)),.nils,.nils,.nils,.nils,.nils,.nils] [(0,13,tp 7)]),oo 9 (.box 83 (tp 8)),mq 4 9] [1,3,4] (.seq (.draw [fi 10 0 1,oo 11 (.load (some 3) (tp 10)),oo 12 (.call 25 [tp 11]),mq 13 12,og 13 true 14 (.mv (tp 3)),og 13 true 15 (.fieldA 0 (tp 1)),og 13 true 16 (.fieldA 0 (tp 15)),og 13 true 17 (.load none (tp 16)),og 13 true 18 (.mget [] .nilFunc (tp 14) (tp 17)),og 13 true 19 (.mv (tp 4)),og 13 true 20 (.callv (tp 18) [tp 19]),oo 21 (.pick (tp 13) (tp 20) (cq false)),mq 22 21,og 22 true 23 (.mv (tp 4)),og 22 true 24 (.ncheck (tp 23)),og 22 true 25 (.fieldA 0 (tp 24)),og 22 true 26 (.load (some 13) (tp 25)),og 22 true 27 (.fieldA 0 (tp 1)),og 22 true 28 (.load (some 3) (tp 27)),og 22 true 29 (.build [.pd (.raw (.int .i64 0)),.pd (.raw (.string ⟨#[]⟩)),.pd (.raw (.string ⟨#[]⟩)),.pd (.raw (.bool false)),.nils,.nils,.pd (.raw (.string ⟨#[]⟩)),.nils,.nils,.nils,.nils,.nils,.nils] [(0,3,tp 28)]),og 22 true 30 (.call 13 [tp 26,tp 29]),oo 31 (.pick (tp 22) (tp 30) (cq false)),mq 2 31] [0,1,3,7,15,15,47,111,255,15,1023,2047,4095,8191,16383,32767,65535,8191,139263,401407,1048575,2097151,4194303] (.take 0 (.take 1 (.alts (.cons 2 true (.take 3 (.take 4 (.take 5 (.take 6 (.take 7 (.take 8 (.take 9 (.alts (.cons 10 true (.take 11 (.take 12 (.take 13 (.take 14 (.take 15 (.take 16 (.take 17 (.take 18 (.take 19 (.alts (.cons 20 true (.take 21 (.take 22 .done)) .nil))))))))))) .nil))))))))) .nil)))) (some [2])) .ret))))
def an_zfwje : Ann := ann (List.range 4) ac_zfwje
theorem ok_zfwje : okd Tryz.prog an_zfwje ac_zfwje Tryz.f11 := ⟨by kernel_rfl, by kernel_rfl⟩

def ac_zhbvt : AC := (sr [oo 2 (.box 32 (tp 0)),oo 3 (.box 32 (tp 1)),oo 4 (.mv (cq false))] [2,3] (.seq (.block 0 (sr [fi 6 0 2,oo 7 (.load (some 3) (tp 6)),fi 8 0 3,oo 9 (.load (some 3) (tp 8)),oo 10 (.eqs true [.int,.str,.str] (tp 7) (tp 9)),mq 11 10,og 11 false 12 (.fieldA 3 (tp 2)),og 11 false 13 (.load none (tp 12)),og 11 false 14 (.fieldA 3 (tp 3)),og 11 false 15 (.load none (tp 14)),og 11 false 16 (.binB true (tp 13) (tp 15)),oo 17 (.pick (tp 11) (cq true) (tp 16)),mq 18 17,og 18 false 19 (.fieldA 6 (tp 2)),og 18 false 20 (.load none (tp 19)),og 18 false 21 (.fieldA 6 (tp 3)),og 18 false 22 (.load none (tp 21)),og 18 false 23 (.bin .neq (tp 20) (tp 22)),oo 24 (.pick (tp 18) (cq true) (tp 23)),mq 5 24] [2,3,5] (.cond (tp 5) (sr [oo 4 (.mv (cq false))] [4] .ret) (sr [fi 26 4 2,lq 27 26,fi 28 4 3,lq 29 28,oo 30 (.call 45 [tp 27,tp 29]),oo 31 (.un .not (tp 30)),mq 32 31,og 32 false 33 (.fieldA 5 (tp 2)),og 32 false 34 (.load none (tp 33)),og 32 false 35 (.fieldA 5 (tp 3)),og 32 false 36 (.load none (tp 35)),og 32 false 37 (.call 46 [tp 34,tp 36]),og 32 false 38 (.un .not (tp 37)),oo 39 (.pick (tp 32) (cq true) (tp 38)),mq 40 39,og 40 false 41 (.fieldA 9 (tp 2)),og 40 false 42 (.load none (tp 41)),og 40 false 43 (.fieldA 9 (tp 3)),og 40 false 44 (.load none (tp 43)),og 40 false 45 (.call 47 [tp 42,tp 44]),og 40 false 46 (.un .not (tp 45)),oo 47 (.pick (tp 40) (cq true) (tp 46)),mq 25 47] [2,3,25] (.cond (tp 25) (sr [oo 4 (.mv (cq false))] [4] .ret) (sr [fi 49 8 2,lq 50 49,fi 51 8 3,lq 52 51,oo 53 (.call 48 [tp 50,tp 52]),oo 54 (.un .not (tp 53)),mq 55 54,og 55 false 56 (.fieldA 11 (tp 2)),og 55 false 57 (.load none (tp 56)),og 55 false 58 (.fieldA 11 (tp 3)),og 55 false 59 (.load none (tp 58)),og 55 false 60 (.call 49 [tp 57,tp 59]),og 55 false 61 (.un .not (tp 60)),oo 62 (.pick (tp 55) (cq true) (tp 61)),mq 63 62,og 63 false 64 (.fieldA 12 (tp 2)),og 63 false 65 (.load none (tp 64)),og 63 false 66 (.fieldA 12 (tp 3)),og 63 false 67 (.load none (tp 66)),og 63 false 68 (.call 49 [tp 65,tp 67]),og 63 false 69 (.un .not (tp 68)),oo 70 (.pick (tp 63) (cq true) (tp 69)),mq 48 70] [2,3,48] (.cond (tp 48) (sr [oo 4 (.mv (cq false))] [4] .ret) .skip))))))) (sr [fi 71 7 2,lq 72 71,fi 73 7 3,lq 74 73,oo 75 (.call 50 [tp 72,tp 74,.func 51]),mq 76 75,og 76 true 77 (.fieldA 10 (tp 2)),og 76 true 78 (.load none (tp 77)),og 76 true 79 (.fieldA 10 (tp 3)),og 76 true 80 (.load none (tp 79)),og 76 true 81 (.call 52 [tp 78,tp 80,.func 53]),oo 82 (.pick (tp 76) (tp 81) (cq false)),mq 4 82] [4] .ret)))
def an_zhbvt : Ann := ann (List.range 8) ac_zhbvt
theorem ok_zhbvt : okd Tryz.prog an_zhbvt ac_zhbvt Tryz.f13 := ⟨by kernel_rfl, by kernel_rfl⟩

def ac_znvpm : AC := (sr [oo 1 (.box 32 (tp 0)),oo 2 (.mv (.const (.slice none 0 0)))] [1] (.seq (sr [oo 13 (.load (some 13) (tp 1)),oo 14 (.call 11 [tp 13]),oo 15 (.un .not (tp 14))] [1,15] (.cond (tp 15) (sr [oo 2 (.mv (.const (.slice none 0 0)))] [2] .ret) .skip)) (sr [oo 3 (.alloc 38 [.nils])] [1,3] (sr [oo 16 (.mkfn 59 [tp 1,tp 3]),mq 4 16] [1,3,4] (.seq (sr [fi 17 6 1,lq 18 17,oo 19 (.bin .neq (tp 18) (.const (.string ⟨#[]⟩)))] [1,3,4,19] (.cond (tp 19) (.region [mq 20 4,fi 21 6 1,lq 22 21,oo 23 (.build [.pd (.raw (.int .i64 0)),.pd (.raw (.string ⟨#[]⟩)),.pd (.raw (.string ⟨#[]⟩))] [(0,1,ci 1),(2,1,tp 22)]),oo 24 (.callv (tp 20) [tp 23])] (some [1,3,4])) .skip)) (.seq (sr [fi 25 7 1,lq 26 25,oo 27 (.len (tp 26) false),oo 28 (.mv (ci 0))] [1,3,4,26,27,28] (.block 0 (.loop (sr [oo 29 (.bin .lss (tp 28) (tp 27))] [1,3,4,26,27,28,29] (.seq (.cond (tp 29) .skip (.exit 0)) (.seq (.block 1 (sr [oo 30 (.idxA 9 (tp 26) (tp 28)),oo 31 (.load (some 9) (tp 30)),oo 6 (.alloc 71 [.pd (.raw (.string ⟨#[]⟩)),.pd (.raw (.int .i64 0)),.pd (.raw (.bool false)),.pd (.raw (.string ⟨#[]⟩)),.pd (.raw (.int .i64 0)),.pd (.raw (.string ⟨#[]⟩)),.pd (.raw (.string ⟨#[]⟩)),.pd (.raw (.int .i64 0)),.nils]),.mk none none (.store 9 (tp 6) (tp 31))] [1,3,4,6,26,27,28] (sr [fi 32 2 6,lq 33 32] [1,3,4,6,26,27,28,33] (.cond (tp 33) (.region [mq 34 4,fi 35 4 6,oo 36 (.load (some 3) (tp 35)),oo 37 (.callv (tp 34) [tp 36])] (some [1,3,4,26,27,28])) .skip)))) (.region [oo 38 (.bin .add (tp 28) (ci 1)),mq 28 38] (some [1,3,4,26,27,28])))))))) (.seq (sr [fi 39 8 1,lq 40 39,oo 41 (.len (tp 40) false),oo 42 (.mv (ci 0))] [1,3,4,40,41,42] (.block 2 (.loop (sr [oo 43 (.bin .lss (tp 42) (tp 41))] [1,3,4,40,41,42,43] (.seq (.cond (tp 43) .skip (.exit 2)) (.seq (.block 3 (sr [oo 44 (.idxA 4 (tp 40) (tp 42)),oo 45 (.load (some 4) (tp 44)),oo 8 (.alloc 48 [.pd (.raw (.string ⟨#[]⟩)),.pd (.raw (.string ⟨#[]⟩)),.pd (.raw (.string ⟨#[]⟩)),.pd (.raw (.int .i64 0))]),.mk none none (.store 4 (tp 8) (tp 45))] [1,3,4,8,40,41,42] (.region [mq 46 4,fi 47 0 8,lq 48 47,fi 49 1 8,lq 50 49,oo 51 (.build [.pd (.raw (.int .i64 0)),.pd (.raw (.string ⟨#[]⟩)),.pd (.raw (.string ⟨#[]⟩))] [(0,1,ci 5),(1,1,tp 48),(2,1,tp 50)]),oo 52 (.callv (tp 46) [tp 51])] (some [1,3,4,40,41,42])))) (.region [oo 53 (.bin .add (tp 42) (ci 1)),mq 42 53] (some [1,3,4,40,41,42])))))))) (.seq (sr [fi 54 10 1,lq 55 54,oo 56 (.len (tp 55) false),oo 57 (.mv (ci 0))] [1,3,4,55,56,57] (.block 4 (.loop (sr [oo 58 (.bin .lss (tp 57) (tp 56))] [1,3,4,55,56,57,58] (.seq (.cond (tp 58) .skip (.exit 4)) (.seq (.block 5 (sr [oo 59 (.idxA 3 (tp 55) (tp 57)),oo 60 (.load (some 3) (tp 59)),oo 10 (.alloc 53 [.nils,.nils,.nils]),.mk none none (.store 3 (tp 10) (tp 60))] [1,3,4,10,55,56,57] (sr [fi 61 2 10,lq 62 61,oo 63 (.len (tp 62) false),oo 64 (.mv (ci 0))] [1,3,4,55,56,57,62,63,64] (.block 6 (.loop (sr [oo 65 (.bin .lss (tp 64) (tp 63))] [1,3,4,55,56,57,62,63,64,65] (.seq (.cond (tp 65) .skip (.exit 6)) (.seq (.block 7 (sr [oo 66 (.idxA 5 (tp 62) (tp 64)),oo 67 (.load (some 5) (tp 66)),oo 12 (.alloc 55 [.pd (.raw (.int .i64 0)),.pd (.raw (.string ⟨#[]⟩)),.pd (.raw (.string ⟨#[]⟩)),.pd (.raw (.int .i64 0)),.pd (.raw (.int .i64 0))]),.mk none none (.store 5 (tp 12) (tp 67))] [1,3,4,12,55,56,57,62,63,64] (.region [mq 68 4,fi 69 0 12,oo 70 (.load (some 3) (tp 69)),oo 71 (.callv (tp 68) [tp 70])] (some [1,3,4,55,56,57,62,63,64])))) (.region [oo 72 (.bin .add (tp 64) (ci 1)),mq 64 72] (some [1,3,4,55,56,57,62,63,64])))))))))) (.region [oo 73 (.bin .add (tp 57) (ci 1)),mq 57 73] (some [1,3,4,55,56,57])))))))) (.seq (sr [fi 74 0 1,fi 75 0 74,lq 76 75,oo 77 (.bin .eql (tp 76) (ci 6))] [1,3,4,77] (.cond (tp 77) (.region [mq 78 4,fi 79 0 1,fi 80 1 79,lq 81 80,oo 82 (.build [.pd (.raw (.int .i64 0)),.pd (.raw (.string ⟨#[]⟩)),.pd (.raw (.string ⟨#[]⟩))] [(0,1,ci 2),(2,1,tp 81)]),oo 83 (.callv (tp 78) [tp 82])] (some [3])) .skip)) (sr [lq 84 3,oo 85 (.call 60 [tp 84,.func 20])] [3] (sr [lq 86 3,oo 87 (.call 61 [tp 86]),mq 2 87] [2] .ret)))))))))))
def an_znvpm : Ann := ann (List.range 31) ac_znvpm
theorem ok_znvpm : okd Tryz.prog an_znvpm ac_znvpm Tryz.f17 := ⟨by kernel_rfl, by kernel_rfl⟩

def ac_zyyke : AC := (sr [oo 2 (.box 23 (tp 0)),oo 3 (.box 23 (tp 1)),oo 4 (.mv (ci 0))] [2,3] (.seq (.draw [fi 5 0 2,lq 6 5,fi 7 0 3,lq 8 7,oo 9 (.call 65 [tp 6,tp 8]),fi 10 1 2,lq 11 10,fi 12 1 3,lq 13 12,oo 14 (.call 66 [tp 11,tp 13]),fi 15 2 2,lq 16 15,fi 17 2 3,lq 18 17,oo 19 (.call 66 [tp 16,tp 18]),oo 20 (.bslice 3 1 [tp 9,tp 14,tp 19]),oo 21 (.call 64 [tp 20]),mq 4 21] [0,1,0,4,15,0,32,0,128,511,0,1024,0,4096,16383,32767,65535,131071] (.take 0 (.take 1 (.take 2 (.take 3 (.take 5 (.take 6 (.take 7 (.take 8 (.take 10 (.take 11 (.take 12 (.take 13 (.alts (.cons 4 false (.alts (.cons 9 false (.alts (.cons 14 true (.alts (.cons 15 true (.alts (.cons 16 true (.take 17 .done) .nil)) .nil)) .nil)) .nil)) .nil)))))))))))))) (some [4])) .ret))
def an_zyyke : Ann := ann (List.range 2) ac_zyyke
theorem ok_zyyke : okd Tryz.prog an_zyyke ac_zyyke Tryz.f20 := ⟨by kernel_rfl, by kernel_rfl⟩

def ac_zngfe : AC := (sr [oo 1 (.box 23 (tp 0)),oo 2 (.mv (.const (.string ⟨#[]⟩))),oo 3 (.mv (ci 0))] [1] (.seq (sr [oo 6 (.load (some 3) (tp 1)),oo 7 (.call 25 [tp 6]),oo 8 (.un .not (tp 7))] [1,8] (.cond (tp 8) (sr [oo 2 (.mv (.const (.string ⟨#[]⟩))),oo 3 (.mv (ci 1))] [2,3] .ret) .skip)) (sr [fi 10 1 1,lq 11 10,fi 12 2 1,lq 13 12,oo 14 (.call 67 [tp 11,tp 13]),mq 9 14,oo 15 (.extract (tp 9) 0),oo 16 (.extract (tp 9) 1),mq 4 15,mq 5 16] [1,4,5] (.seq (sr [mq 17 5,oo 18 (.bin .neq (tp 17) (ci 0))] [1,4,5,18] (.cond (tp 18) (sr [mq 19 5,oo 2 (.mv (.const (.string ⟨#[]⟩))),mq 3 19] [2,3] .ret) .skip)) (sr [fi 20 0 1,lq 21 20,oo 22 (.bin .add (ci 48) (tp 21)),oo 23 (.conv .u8 (tp 22)),oo 24 (.bslice 5 1 [tp 23]),oo 25 (.bstr (tp 24)),oo 26 (.bin .add (tp 25) (.const (.string ⟨#[32]⟩))),mq 27 4,oo 28 (.bin .add (tp 26) (tp 27)),mq 2 28,oo 3 (.mv (ci 0))] [2,3] .ret)))))
def an_zngfe : Ann := ann (List.range 7) ac_zngfe
theorem ok_zngfe : okd Tryz.prog an_zngfe ac_zngfe Tryz.f22 := ⟨by kernel_rfl, by kernel_rfl⟩

def ac_zhci6 : AC := (sr [oo 2 (.alloc 23 [.pd (.raw (.int .i64 0)),.pd (.raw (.string ⟨#[]⟩)),.pd (.raw (.string ⟨#[]⟩))]),oo 3 (.mv (ci 0))] [0,2] (.seq (sr [mq 10 0,oo 11 (.len (tp 10) true),oo 12 (.bin .lss (tp 11) (ci 2))] [0,2,12] (.cond (tp 12) (sr [oo 13 (.build [.pd (.raw (.int .i64 0)),.pd (.raw (.string ⟨#[]⟩)),.pd (.raw (.string ⟨#[]⟩))] []),.mk none none (.store 3 (tp 2) (tp 13)),oo 3 (.mv (ci 2))] [2,3] .ret) .skip)) (sr [mq 15 0,oo 16 (.slcS (tp 15) (some (ci 2)) none),oo 17 (.call 68 [tp 16]),mq 14 17,oo 18 (.extract (tp 14) 0),oo 19 (.extract (tp 14) 1),oo 20 (.extract (tp 14) 2),mq 4 18,mq 5 19,mq 6 20] [0,2,4,5] (sr [mq 21 0,oo 22 (.idxS (tp 21) (ci 0)),oo 23 (.conv .i64 (tp 22)),oo 24 (.bin .sub (tp 23) (ci 48)),mq 25 4,mq 26 5,oo 27 (.build [.pd (.raw (.int .i64 0)),.pd (.raw (.string ⟨#[]⟩)),.pd (.raw (.string ⟨#[]⟩))] [(0,1,tp 24),(1,1,tp 25),(2,1,tp 26)]),oo 7 (.alloc 23 [.pd (.raw (.int .i64 0)),.pd (.raw (.string ⟨#[]⟩)),.pd (.raw (.string ⟨#[]⟩))]),.mk none none (.store 3 (tp 7) (tp 27))] [0,2,7] (.seq (sr [oo 29 (.load (some 3) (tp 7)),oo 30 (.call 22 [tp 29]),mq 28 30,oo 31 (.extract (tp 28) 0),oo 32 (.extract (tp 28) 1),mq 8 31,mq 9 32] [0,2,7,8,9] (sr [mq 33 9,oo 34 (.bin .neq (tp 33) (ci 0)),mq 35 34,og 35 false 36 (.mv (tp 8)),og 35 false 37 (.mv (tp 0)),og 35 false 38 (.bin .neq (tp 36) (tp 37)),oo 39 (.pick (tp 35) (cq true) (tp 38))] [2,7,39] (.cond (tp 39) (sr [oo 40 (.build [.pd (.raw (.int .i64 0)),.pd (.raw (.string ⟨#[]⟩)),.pd (.raw (.string ⟨#[]⟩))] []),.mk none none (.store 3 (tp 2) (tp 40)),oo 3 (.mv (ci 2))] [2,3] .ret) .skip))) (sr [oo 41 (.load (some 3) (tp 7)),.mk none none (.store 3 (tp 2) (tp 41)),oo 3 (.mv (ci 0))] [2,3] .ret))))))
def an_zhci6 : Ann := ann (List.range 9) ac_zhci6
theorem ok_zhci6 : okd Tryz.prog an_zhci6 ac_zhci6 Tryz.f23 := ⟨by kernel_rfl, by kernel_rfl⟩

def ac_zkdrf : AC := (sr [oo 1 (.box 23 (tp 0)),oo 2 (.mv (cq false))] [1] (.seq (sr [fi 3 0 1,lq 4 3] [1,4] (.block 0 (sr [oo 6 (.bin .eql (tp 4) (ci 1)),mq 5 6] [1,4,5] (.cond (tp 5) (sr [fi 7 1 1,lq 8 7,oo 9 (.bin .eql (tp 8) (.const (.string ⟨#[]⟩))),mq 10 9,og 10 true 11 (.fieldA 2 (tp 1)),og 10 true 12 (.load none (tp 11)),og 10 true 13 (.call 70 [tp 12]),oo 14 (.pick (tp 10) (tp 13) (cq false)),mq 2 14] [2] .ret) (sr [oo 16 (.bin .eql (tp 4) (ci 2)),mq 15 16] [1,15] (.cond (tp 15) (sr [fi 17 1 1,lq 18 17,oo 19 (.bin .eql (tp 18) (.const (.string ⟨#[]⟩))),mq 20 19,og 20 true 21 (.fieldA 2 (tp 1)),og 20 true 22 (.load none (tp 21)),og 20 true 23 (.call 71 [tp 22]),oo 24 (.pick (tp 20) (tp 23) (cq false)),mq 2 24] [2] .ret) .skip)))))) (sr [fi 25 0 1,lq 26 25,oo 27 (.call 72 [tp 26]),mq 28 27,og 28 true 29 (.fieldA 1 (tp 1)),og 28 true 30 (.load none (tp 29)),og 28 true 31 (.call 71 [tp 30]),oo 32 (.pick (tp 28) (tp 31) (cq false)),mq 33 32,og 33 true 34 (.fieldA 2 (tp 1)),og 33 true 35 (.load none (tp 34)),og 33 true 36 (.call 70 [tp 35]),oo 37 (.pick (tp 33) (tp 36) (cq false)),mq 2 37] [2] .ret)))
def an_zkdrf : Ann := ann (List.range 7) ac_zkdrf
theorem ok_zkdrf : okd Tryz.prog an_zkdrf ac_zkdrf Tryz.f25 := ⟨by kernel_rfl, by kernel_rfl⟩

def ac_zk71m : AC := (sr [oo 2 (.mv (cq false))] [0] (sr [mq 3 0,oo 4 (.ncheck (tp 3)),fi 5 0 4,fi 6 3 5,.mk none none (.store 1 (tp 6) (cq false))] [] (sr [oo 2 (.mv (cq true))] [2] .ret)))
def an_zk71m : Ann := ann (List.range 3) ac_zk71m
theorem ok_zk71m : okd Tryz.prog an_zk71m ac_zk71m Tryz.f34 := ⟨by kernel_rfl, by kernel_rfl⟩

def ac_zag3z : AC := (sr [oo 2 (.mv (cq false))] [0] (sr [mq 4 0,oo 5 (.ncheck (tp 4)),fi 6 0 5,fi 7 4 6,lq 8 7,mq 3 8] [0,3] (sr [mq 9 0,oo 10 (.ncheck (tp 9)),fi 11 0 10,fi 12 4 11,.mk none none (.store 1 (tp 12) (.const (.slice none 0 0)))] [3] (sr [mq 13 3,oo 14 (.call 76 [tp 13]),mq 2 14] [2] .ret))))
def an_zag3z : Ann := ann (List.range 4) ac_zag3z
theorem ok_zag3z : okd Tryz.prog an_zag3z ac_zag3z Tryz.f35 := ⟨by kernel_rfl, by kernel_rfl⟩

def ac_zxlfl : AC := (sr [oo 2 (.mv (cq false))] [0] (sr [mq 4 0,oo 5 (.ncheck (tp 4)),fi 6 0 5,fi 7 5 6,lq 8 7,mq 3 8] [0,3] (sr [mq 9 0,oo 10 (.ncheck (tp 9)),fi 11 0 10,fi 12 5 11,.mk none none (.store 1 (tp 12) (.const (.slice none 0 0)))] [3] (sr [mq 13 3,oo 14 (.len (tp 13) false),oo 15 (.bin .gtr (tp 14) (ci 0)),mq 16 15,og 16 true 17 (.mv (tp 3)),og 16 true 18 (.call 77 [tp 17,ci 8,.func 78]),oo 19 (.pick (tp 16) (tp 18) (cq false)),mq 20 19,og 20 true 21 (.mv (tp 3)),og 20 true 22 (.call 79 [tp 21]),oo 23 (.pick (tp 20) (tp 22) (cq false)),mq 24 23,og 24 true 25 (.mv (tp 3)),og 24 true 26 (.call 80 [tp 25,.func 81]),og 24 true 27 (.un .not (tp 26)),oo 28 (.pick (tp 24) (tp 27) (cq false)),mq 2 28] [2] .ret))))
def an_zxlfl : Ann := ann (List.range 4) ac_zxlfl
theorem ok_zxlfl : okd Tryz.prog an_zxlfl ac_zxlfl Tryz.f36 := ⟨by kernel_rfl, by kernel_rfl⟩

def ac_zqquk : AC := (sr [oo 2 (.mv (cq false))] [0] (.seq (.draw [mq 6 0,oo 7 (.ncheck (tp 6)),fi 8 0 7,fi 9 7 8,lq 10 9,mq 11 0,oo 12 (.ncheck (tp 11)),fi 13 0 12,fi 14 6 13,lq 15 14,mq 3 10,mq 4 15] [0,1,3,7,15,0,32,96,224,480,31,2047] (.take 0 (.take 1 (.take 2 (.take 3 (.take 4 (.take 5 (.take 6 (.take 7 (.take 8 (.take 9 (.take 10 (.take 11 .done)))))))))))) (some [0,3,4])) (sr [mq 16 0,mq 17 0,oo 18 (.ncheck (tp 16)),fi 19 0 18,fi 20 7 19,.mk none none (.store 1 (tp 20) (.const (.slice none 0 0))),oo 21 (.ncheck (tp 17)),fi 22 0 21,fi 23 6 22,.mk none none (.store 1 (tp 23) (.const (.string ⟨#[]⟩)))] [3,4] (sr [oo 5 (.mv (.func 82))] [3,4,5] (sr [mq 24 4,oo 25 (.call 70 [tp 24]),mq 26 25,og 26 true 27 (.mv (tp 3)),og 26 true 28 (.len (tp 27) false),og 26 true 29 (.bin .gtr (tp 28) (ci 0)),oo 30 (.pick (tp 26) (tp 29) (cq false)),mq 31 30,og 31 true 32 (.mv (tp 3)),og 31 true 33 (.call 83 [tp 32,ci 8,.func 84]),oo 34 (.pick (tp 31) (tp 33) (cq false)),mq 35 34,og 35 true 36 (.mv (tp 3)),og 35 true 37 (.mv (tp 5)),og 35 true 38 (.call 85 [tp 36,tp 37]),og 35 true 39 (.un .not (tp 38)),oo 40 (.pick (tp 35) (tp 39) (cq false)),mq 2 40] [2] .ret)))))
def an_zqquk : Ann := ann (List.range 5) ac_zqquk
theorem ok_zqquk : okd Tryz.prog an_zqquk ac_zqquk Tryz.f37 := ⟨by kernel_rfl, by kernel_rfl⟩

def ac_ztpho : AC := (sr [oo 2 (.mv (cq false))] [0] (.seq (.draw [mq 7 0,oo 8 (.ncheck (tp 7)),fi 9 0 8,fi 10 8 9,lq 11 10,mq 12 0,oo 13 (.ncheck (tp 12)),fi 14 0 13,fi 15 9 14,lq 16 15,mq 17 0,oo 18 (.ncheck (tp 17)),fi 19 0 18,fi 20 10 19,lq 21 20,mq 3 11,mq 4 16,mq 5 21] [0,1,3,7,15,0,32,96,224,480,0,1024,3072,7168,15360,31,33791,131071] (.take 0 (.take 1 (.take 2 (.take 3 (.take 4 (.take 5 (.take 6 (.take 7 (.take 8 (.take 9 (.take 10 (.take 11 (.take 12 (.take 13 (.take 14 (.take 15 (.take 16 (.take 17 .done)))))))))))))))))) (some [0,3,4,5])) (sr [mq 22 0,mq 23 0,mq 24 0,oo 25 (.ncheck (tp 22)),fi 26 0 25,fi 27 8 26,.mk none none (.store 1 (tp 27) (.const (.slice none 0 0))),oo 28 (.ncheck (tp 23)),fi 29 0 28,fi 30 9 29,.mk none none (.store 1 (tp 30) (.const (.slice none 0 0))),oo 31 (.ncheck (tp 24)),fi 32 0 31,fi 33 10 32,.mk none none (.store 1 (tp 33) (.const (.slice none 0 0)))] [3,4,5] (.seq (sr [mq 34 3,oo 35 (.call 86 [tp 34,.func 87]),mq 36 35,og 36 false 37 (.mv (tp 4)),og 36 false 38 (.call 88 [tp 37,.func 89]),oo 39 (.pick (tp 36) (cq true) (tp 38))] [3,4,5,39] (.cond (tp 39) (sr [oo 2 (.mv (cq false))] [2] .ret) .skip)) (sr [oo 6 (.mv (.func 90))] [3,4,5,6] (sr [mq 40 3,oo 41 (.call 92 [tp 40,ci 4,.func 93]),mq 42 41,og 42 true 43 (.mv (tp 4)),og 42 true 44 (.mv (tp 6)),og 42 true 45 (.call 94 [tp 43,ci 4,tp 44]),oo 46 (.pick (tp 42) (tp 45) (cq false)),mq 47 46,og 47 true 48 (.mv (tp 5)),og 47 true 49 (.call 95 [tp 48,ci 6,.func 96]),oo 50 (.pick (tp 47) (tp 49) (cq false)),mq 2 50] [2] .ret))))))
def an_ztpho : Ann := ann (List.range 7) ac_ztpho
theorem ok_ztpho : okd Tryz.prog an_ztpho ac_ztpho Tryz.f38 := ⟨by kernel_rfl, by kernel_rfl⟩

def ac_zlbax : AC := (sr [oo 2 (.mv (cq false))] [0] (.seq (.draw [mq 7 0,oo 8 (.ncheck (tp 7)),fi 9 0 8,fi 10 11 9,lq 11 10,mq 12 0,oo 13 (.ncheck (tp 12)),fi 14 0 13,fi 15 12 14,lq 16 15,mq 3 11,mq 4 16] [0,1,3,7,15,0,32,96,224,480,31,2047] (.take 0 (.take 1 (.take 2 (.take 3 (.take 4 (.take 5 (.take 6 (.take 7 (.take 8 (.take 9 (.take 10 (.take 11 .done)))))))))))) (some [0,3,4])) (sr [mq 17 0,mq 18 0,oo 19 (.ncheck (tp 17)),fi 20 0 19,fi 21 11 20,.mk none none (.store 1 (tp 21) (.const (.slice none 0 0))),oo 22 (.ncheck (tp 18)),fi 23 0 22,fi 24 12 23,.mk none none (.store 1 (tp 24) (.const (.slice none 0 0)))] [3,4] (sr [oo 5 (.mv (.func 97))] [3,4,5] (sr [oo 6 (.mv (.func 98))] [3,4,5,6] (sr [mq 25 3,oo 26 (.len (tp 25) false),oo 27 (.bin .gtr (tp 26) (ci 0)),mq 28 27,og 28 true 29 (.mv (tp 4)),og 28 true 30 (.len (tp 29) false),og 28 true 31 (.bin .gtr (tp 30) (ci 0)),oo 32 (.pick (tp 28) (tp 31) (cq false)),mq 33 32,og 33 true 34 (.mv (tp 3)),og 33 true 35 (.mv (tp 5)),og 33 true 36 (.call 99 [tp 34,ci 4,tp 35]),oo 37 (.pick (tp 33) (tp 36) (cq false)),mq 38 37,og 38 true 39 (.mv (tp 4)),og 38 true 40 (.mv (tp 6)),og 38 true 41 (.call 99 [tp 39,ci 4,tp 40]),oo 42 (.pick (tp 38) (tp 41) (cq false)),mq 2 42] [2] .ret))))))
def an_zlbax : Ann := ann (List.range 6) ac_zlbax
theorem ok_zlbax : okd Tryz.prog an_zlbax ac_zlbax Tryz.f39 := ⟨by kernel_rfl, by kernel_rfl⟩

def ac_z1fwi : AC := (sr [oo 2 (.box 71 (tp 0)),oo 3 (.box 71 (tp 1)),oo 4 (.mv (cq false))] [2,3] (sr [fi 5 0 2,lq 6 5,fi 7 0 3,lq 8 7,oo 9 (.bin .eql (tp 6) (tp 8)),mq 10 9,og 10 true 11 (.fieldA 1 (tp 2)),og 10 true 12 (.load none (tp 11)),og 10 true 13 (.fieldA 1 (tp 3)),og 10 true 14 (.load none (tp 13)),og 10 true 15 (.bin .eql (tp 12) (tp 14)),oo 16 (.pick (tp 10) (tp 15) (cq false)),mq 17 16,og 17 true 18 (.fieldA 2 (tp 2)),og 17 true 19 (.load none (tp 18)),og 17 true 20 (.fieldA 2 (tp 3)),og 17 true 21 (.load none (tp 20)),og 17 true 22 (.binB false (tp 19) (tp 21)),oo 23 (.pick (tp 17) (tp 22) (cq false)),mq 24 23,og 24 true 25 (.fieldA 3 (tp 2)),og 24 true 26 (.load none (tp 25)),og 24 true 27 (.fieldA 3 (tp 3)),og 24 true 28 (.load none (tp 27)),og 24 true 29 (.bin .eql (tp 26) (tp 28)),oo 30 (.pick (tp 24) (tp 29) (cq false)),mq 31 30,og 31 true 32 (.fieldA 4 (tp 2)),og 31 true 33 (.load (some 3) (tp 32)),og 31 true 34 (.fieldA 4 (tp 3)),og 31 true 35 (.load (some 3) (tp 34)),og 31 true 36 (.eqs false [.int,.str,.str] (tp 33) (tp 35)),oo 37 (.pick (tp 31) (tp 36) (cq false)),mq 38 37,og 38 true 39 (.fieldA 7 (tp 2)),og 38 true 40 (.load none (tp 39)),og 38 true 41 (.fieldA 7 (tp 3)),og 38 true 42 (.load none (tp 41)),og 38 true 43 (.bin .eql (tp 40) (tp 42)),oo 44 (.pick (tp 38) (tp 43) (cq false)),mq 45 44,og 45 true 46 (.fieldA 8 (tp 2)),og 45 true 47 (.load none (tp 46)),og 45 true 48 (.fieldA 8 (tp 3)),og 45 true 49 (.load none (tp 48)),og 45 true 50 (.call 106 [tp 47,tp 49]),oo 51 (.pick (tp 45) (tp 50) (cq false)),mq 4 51] [4] .ret))
def an_z1fwi : Ann := ann (List.range 2) ac_z1fwi
theorem ok_z1fwi : okd Tryz.prog an_z1fwi ac_z1fwi Tryz.f51 := ⟨by kernel_rfl, by kernel_rfl⟩

def ac_z30xg : AC := (sr [oo 2 (.box 53 (tp 0)),oo 3 (.box 53 (tp 1)),oo 4 (.mv (cq false))] [2,3] (sr [fi 5 0 2,lq 6 5,fi 7 0 3,lq 8 7,oo 9 (.call 107 [tp 6,tp 8,.func 108]),mq 10 9,og 10 true 11 (.fieldA 1 (tp 2)),og 10 true 12 (.load none (tp 11)),og 10 true 13 (.fieldA 1 (tp 3)),og 10 true 14 (.load none (tp 13)),og 10 true 15 (.call 109 [tp 12,tp 14]),oo 16 (.pick (tp 10) (tp 15) (cq false)),mq 17 16,og 17 true 18 (.fieldA 2 (tp 2)),og 17 true 19 (.load none (tp 18)),og 17 true 20 (.fieldA 2 (tp 3)),og 17 true 21 (.load none (tp 20)),og 17 true 22 (.call 110 [tp 19,tp 21]),oo 23 (.pick (tp 17) (tp 22) (cq false)),mq 4 23] [4] .ret))
def an_z30xg : Ann := ann (List.range 2) ac_z30xg
theorem ok_z30xg : okd Tryz.prog an_z30xg ac_z30xg Tryz.f53 := ⟨by kernel_rfl, by kernel_rfl⟩

def ac_zvrbp : AC := (sr [oo 3 (.box 23 (tp 0))] [1,2,3] (.seq (sr [fi 4 1 3,lq 5 4,oo 6 (.bin .eql (tp 5) (.const (.string ⟨#[]⟩))),mq 7 6,og 7 true 8 (.fieldA 0 (tp 3)),og 7 true 9 (.load none (tp 8)),og 7 true 10 (.bin .gtr (tp 9) (ci 2)),oo 11 (.pick (tp 7) (tp 10) (cq false))] [1,2,3,11] (.cond (tp 11) (.region [fi 12 0 1,fi 13 1 12,lq 14 13,fi 15 1 3,.mk none none (.store 1 (tp 15) (tp 14))] (some [2,3])) .skip)) (.region [lq 16 2,oo 17 (.load (some 3) (tp 3)),oo 18 (.bslice 23 3 [tp 17]),oo 19 (.append 23 3 40 (tp 16) (tp 18)),.mk none none (.store 1 (tp 2) (tp 19))] (some []))))
def an_zvrbp : Ann := ann (List.range 4) ac_zvrbp
theorem ok_zvrbp : okd Tryz.prog an_zvrbp ac_zvrbp Tryz.f59 := ⟨by kernel_rfl, by kernel_rfl⟩

def ac_zeird : AC := (sr [oo 2 (.mv (ci 0))] [0] (sr [oo 3 (.mv (ci 0))] [0,3] (.seq (sr [mq 6 0,oo 7 (.len (tp 6) false),oo 8 (.mv (ci 0))] [3,6,7,8] (.block 0 (.loop (sr [oo 9 (.bin .lss (tp 8) (tp 7))] [3,6,7,8,9] (.seq (.cond (tp 9) .skip (.exit 0)) (.seq (.block 1 (sr [oo 10 (.idxA 1 (tp 6) (tp 8)),lq 11 10,mq 5 11] [3,5,6,7,8] (sr [mq 12 5,mq 13 3,oo 14 (.bin .neq (tp 12) (tp 13))] [3,5,6,7,8,14] (.cond (tp 14) (sr [mq 15 5,mq 2 15] [2] .ret) .skip)))) (.region [oo 16 (.bin .add (tp 8) (ci 1)),mq 8 16] (some [3,6,7,8])))))))) (sr [mq 17 3,mq 2 17] [2] .ret))))
def an_zeird : Ann := ann (List.range 9) ac_zeird
theorem ok_zeird : okd Tryz.prog an_zeird ac_zeird Tryz.f64 := ⟨by kernel_rfl, by kernel_rfl⟩

def ac_zavnu : AC := (sr [oo 2 (.mv (cq false))] [0] (sr [mq 3 0,oo 4 (.bin .geq (tp 3) (ci 1)),mq 5 4,og 5 true 6 (.mv (tp 0)),og 5 true 7 (.bin .leq (tp 6) (ci 7)),oo 8 (.pick (tp 5) (tp 7) (cq false)),mq 2 8] [2] .ret))
def an_zavnu : Ann := ann (List.range 2) ac_zavnu
theorem ok_zavnu : okd Tryz.prog an_zavnu ac_zavnu Tryz.f72 := ⟨by kernel_rfl, by kernel_rfl⟩

def ac_znt9b : AC := (sr [oo 2 (.mv (cq false))] [0] (sr [mq 3 0,oo 4 (.bin .geq (tp 3) (ci 1)),mq 5 4,og 5 true 6 (.mv (tp 0)),og 5 true 7 (.bin .leq (tp 6) (ci 65535)),oo 8 (.pick (tp 5) (tp 7) (cq false)),mq 2 8] [2] .ret))
def an_znt9b : Ann := ann (List.range 2) ac_znt9b
theorem ok_znt9b : okd Tryz.prog an_znt9b ac_znt9b Tryz.f78 := ⟨by kernel_rfl, by kernel_rfl⟩

def ac_zwdgh : AC := (sr [oo 4 (.mv (cq false))] [0,1] (sr [mq 5 0,mq 6 1,oo 7 (.bin .eql (tp 5) (tp 6)),mq 4 7] [4] .ret))
def an_zwdgh : Ann := ann (List.range 2) ac_zwdgh
theorem ok_zwdgh : okd Tryz.prog an_zwdgh ac_zwdgh Tryz.f81 := ⟨by kernel_rfl, by kernel_rfl⟩

def ac_zpej9 : AC := (sr [oo 2 (.box 71 (tp 0)),oo 3 (.box 71 (tp 1)),oo 4 (.mv (cq false))] [2,3] (sr [fi 5 0 2,lq 6 5,fi 7 0 3,lq 8 7,oo 9 (.bin .eql (tp 6) (tp 8)),mq 4 9] [4] .ret))
def an_zpej9 : Ann := ann (List.range 2) ac_zpej9
theorem ok_zpej9 : okd Tryz.prog an_zpej9 ac_zpej9 Tryz.f82 := ⟨by kernel_rfl, by kernel_rfl⟩

def ac_z5xl6 : AC := (sr [oo 1 (.box 71 (tp 0)),oo 2 (.mv (cq false))] [1] (sr [fi 4 4 1,oo 5 (.load (some 3) (tp 4)),oo 6 (.build [.pd (.raw (.int .i64 0)),.pd (.raw (.string ⟨#[]⟩)),.pd (.raw (.string ⟨#[]⟩))] []),oo 7 (.eqs false [.int,.str,.str] (tp 5) (tp 6)),mq 3 7] [1,3] (.seq (sr [fi 8 2 1,lq 9 8] [1,3,9] (.cond (tp 9) (.region [fi 10 4 1,fi 11 0 10,lq 12 11,oo 13 (.bin .eql (tp 12) (ci 4)),mq 14 13,og 14 true 15 (.fieldA 4 (tp 1)),og 14 true 16 (.fieldA 1 (tp 15)),og 14 true 17 (.load none (tp 16)),og 14 true 18 (.call 129 [tp 17]),oo 19 (.pick (tp 14) (tp 18) (cq false)),mq 20 19,og 20 true 21 (.fieldA 4 (tp 1)),og 20 true 22 (.fieldA 2 (tp 21)),og 20 true 23 (.load none (tp 22)),og 20 true 24 (.call 70 [tp 23]),oo 25 (.pick (tp 20) (tp 24) (cq false)),mq 3 25] (some [1,3])) .skip)) (sr [mq 26 3,mq 27 26,og 27 true 28 (.fieldA 0 (tp 1)),og 27 true 29 (.load none (tp 28)),og 27 true 30 (.call 71 [tp 29]),oo 31 (.pick (tp 27) (tp 30) (cq false)),mq 32 31,og 32 true 33 (.fieldA 1 (tp 1)),og 32 true 34 (.load none (tp 33)),og 32 true 35 (.call 78 [tp 34]),oo 36 (.pick (tp 32) (tp 35) (cq false)),mq 37 36,og 37 true 38 (.fieldA 3 (tp 1)),og 37 true 39 (.load none (tp 38)),og 37 true 40 (.call 91 [tp 39]),oo 41 (.pick (tp 37) (tp 40) (cq false)),mq 42 41,og 42 true 43 (.fieldA 7 (tp 1)),og 42 true 44 (.load none (tp 43)),og 42 true 45 (.bin .geq (tp 44) (ci 0)),oo 46 (.pick (tp 42) (tp 45) (cq false)),mq 47 46,og 47 true 48 (.fieldA 7 (tp 1)),og 47 true 49 (.load none (tp 48)),og 47 true 50 (.bin .leq (tp 49) (ci 2)),oo 51 (.pick (tp 47) (tp 50) (cq false)),mq 52 51,og 52 true 53 (.fieldA 8 (tp 1)),og 52 true 54 (.load none (tp 53)),og 52 true 55 (.call 130 [tp 54]),oo 56 (.pick (tp 52) (tp 55) (cq false)),mq 57 56,og 57 true 58 (.fieldA 7 (tp 1)),og 57 true 59 (.load none (tp 58)),og 57 true 60 (.bin .eql (tp 59) (ci 2)),og 57 true 61 (.mv (tp 60)),og 61 false 62 (.fieldA 8 (tp 1)),og 61 false 63 (.load none (tp 62)),og 61 false 64 (.len (tp 63) false),og 61 false 65 (.bin .eql (tp 64) (ci 0)),og 57 true 66 (.pick (tp 61) (cq true) (tp 65)),oo 67 (.pick (tp 57) (tp 66) (cq false)),mq 2 67] [2] .ret))))
def an_z5xl6 : Ann := ann (List.range 5) ac_z5xl6
theorem ok_z5xl6 : okd Tryz.prog an_z5xl6 ac_z5xl6 Tryz.f84 := ⟨by kernel_rfl, by kernel_rfl⟩

def ac_zh5vi : AC := (sr [oo 2 (.box 48 (tp 0)),oo 3 (.box 48 (tp 1)),oo 4 (.mv (cq false))] [2,3] (sr [oo 5 (.load (some 4) (tp 2)),oo 6 (.load (some 4) (tp 3)),oo 7 (.eqs false [.str,.str,.str,.int] (tp 5) (tp 6)),mq 4 7] [4] .ret))
def an_zh5vi : Ann := ann (List.range 2) ac_zh5vi
theorem ok_zh5vi : okd Tryz.prog an_zh5vi ac_zh5vi Tryz.f87 := ⟨by kernel_rfl, by kernel_rfl⟩

def ac_zkpqc : AC := (sr [oo 4 (.mv (cq false))] [0,1] (sr [mq 5 0,mq 6 1,oo 7 (.bin .eql (tp 5) (tp 6)),mq 4 7] [4] .ret))
def an_zkpqc : Ann := ann (List.range 2) ac_zkpqc
theorem ok_zkpqc : okd Tryz.prog an_zkpqc ac_zkpqc Tryz.f89 := ⟨by kernel_rfl, by kernel_rfl⟩

def ac_z4pg2 : AC := (sr [oo 2 (.mv (cq false))] [0] (sr [mq 3 0,oo 4 (.bin .neq (tp 3) (.const (.string ⟨#[]⟩))),mq 5 4,og 5 true 6 (.mv (tp 0)),og 5 true 7 (.call 91 [tp 6]),oo 8 (.pick (tp 5) (tp 7) (cq false)),mq 2 8] [2] .ret))
def an_z4pg2 : Ann := ann (List.range 2) ac_z4pg2
theorem ok_z4pg2 : okd Tryz.prog an_z4pg2 ac_z4pg2 Tryz.f90 := ⟨by kernel_rfl, by kernel_rfl⟩

def ac_za0y7 : AC := (sr [oo 1 (.box 48 (tp 0)),oo 2 (.mv (cq false))] [1] (sr [fi 3 0 1,lq 4 3,oo 5 (.call 129 [tp 4]),mq 6 5,og 6 true 7 (.fieldA 1 (tp 1)),og 6 true 8 (.load none (tp 7)),og 6 true 9 (.call 70 [tp 8]),oo 10 (.pick (tp 6) (tp 9) (cq false)),mq 11 10,og 11 true 12 (.fieldA 2 (tp 1)),og 11 true 13 (.load none (tp 12)),og 11 true 14 (.call 129 [tp 13]),oo 15 (.pick (tp 11) (tp 14) (cq false)),mq 16 15,og 16 true 17 (.fieldA 3 (tp 1)),og 16 true 18 (.load none (tp 17)),og 16 true 19 (.bin .eql (tp 18) (ci 0)),og 16 true 20 (.mv (tp 19)),og 20 false 21 (.fieldA 3 (tp 1)),og 20 false 22 (.load none (tp 21)),og 20 false 23 (.call 78 [tp 22]),og 16 true 24 (.pick (tp 20) (cq true) (tp 23)),oo 25 (.pick (tp 16) (tp 24) (cq false)),mq 2 25] [2] .ret))
def an_za0y7 : Ann := ann (List.range 2) ac_za0y7
theorem ok_za0y7 : okd Tryz.prog an_za0y7 ac_za0y7 Tryz.f93 := ⟨by kernel_rfl, by kernel_rfl⟩

def ac_zjms9 : AC := (sr [oo 1 (.box 53 (tp 0)),oo 2 (.mv (cq false))] [1] (sr [fi 3 0 1,lq 4 3,oo 5 (.call 141 [tp 4,ci 4,.func 142]),mq 6 5,og 6 true 7 (.fieldA 1 (tp 1)),og 6 true 8 (.load none (tp 7)),og 6 true 9 (.call 143 [tp 8]),oo 10 (.pick (tp 6) (tp 9) (cq false)),mq 11 10,og 11 true 12 (.fieldA 2 (tp 1)),og 11 true 13 (.load none (tp 12)),og 11 true 14 (.call 144 [tp 13,ci 4,.func 145]),oo 15 (.pick (tp 11) (tp 14) (cq false)),mq 2 15] [2] .ret))
def an_zjms9 : Ann := ann (List.range 2) ac_zjms9
theorem ok_zjms9 : okd Tryz.prog an_zjms9 ac_zjms9 Tryz.f96 := ⟨by kernel_rfl, by kernel_rfl⟩

def ac_z9wz0 : AC := (sr [oo 1 (.box 93 (tp 0)),oo 2 (.mv (cq false))] [1] (sr [fi 3 0 1,lq 4 3,oo 5 (.call 72 [tp 4]),mq 6 5,og 6 true 7 (.fieldA 1 (tp 1)),og 6 true 8 (.load none (tp 7)),og 6 true 9 (.call 71 [tp 8]),oo 10 (.pick (tp 6) (tp 9) (cq false)),mq 11 10,og 11 true 12 (.fieldA 2 (tp 1)),og 11 true 13 (.load none (tp 12)),og 11 true 14 (.bin .eql (tp 13) (.const (.string ⟨#[]⟩))),oo 15 (.pick (tp 11) (tp 14) (cq false)),mq 2 15] [2] .ret))
def an_z9wz0 : Ann := ann (List.range 2) ac_z9wz0
theorem ok_z9wz0 : okd Tryz.prog an_z9wz0 ac_z9wz0 Tryz.f97 := ⟨by kernel_rfl, by kernel_rfl⟩

def ac_z4xw6 : AC := (sr [oo 1 (.box 93 (tp 0)),oo 2 (.mv (cq false))] [1] (sr [fi 3 0 1,lq 4 3,oo 5 (.call 72 [tp 4]),mq 6 5,og 6 true 7 (.fieldA 1 (tp 1)),og 6 true 8 (.load none (tp 7)),og 6 true 9 (.bin .eql (tp 8) (.const (.string ⟨#[]⟩))),oo 10 (.pick (tp 6) (tp 9) (cq false)),mq 11 10,og 11 true 12 (.fieldA 2 (tp 1)),og 11 true 13 (.load none (tp 12)),og 11 true 14 (.bin .eql (tp 13) (.const (.string ⟨#[]⟩))),og 11 true 15 (.mv (tp 14)),og 15 false 16 (.fieldA 2 (tp 1)),og 15 false 17 (.load none (tp 16)),og 15 false 18 (.call 70 [tp 17]),og 11 true 19 (.pick (tp 15) (cq true) (tp 18)),oo 20 (.pick (tp 11) (tp 19) (cq false)),mq 2 20] [2] .ret))
def an_z4xw6 : Ann := ann (List.range 2) ac_z4xw6
theorem ok_z4xw6 : okd Tryz.prog an_z4xw6 ac_z4xw6 Tryz.f98 := ⟨by kernel_rfl, by kernel_rfl⟩

def ac_zx2gm : AC := (sr [oo 4 (.mv (cq false))] [0,1] (sr [mq 5 0,mq 6 1,oo 7 (.call 152 [tp 5,tp 6,.func 153]),mq 4 7] [4] .ret))
def an_zx2gm : Ann := ann (List.range 2) ac_zx2gm
theorem ok_zx2gm : okd Tryz.prog an_zx2gm ac_zx2gm Tryz.f106 := ⟨by kernel_rfl, by kernel_rfl⟩

def ac_zb37x : AC := (sr [oo 2 (.box 77 (tp 0)),oo 3 (.box 77 (tp 1)),oo 4 (.mv (cq false))] [2,3] (sr [fi 5 0 2,oo 6 (.load (some 2) (tp 5)),fi 7 0 3,oo 8 (.load (some 2) (tp 7)),oo 9 (.eqs false [.int,.str] (tp 6) (tp 8)),mq 10 9,og 10 true 11 (.fieldA 2 (tp 2)),og 10 true 12 (.load none (tp 11)),og 10 true 13 (.fieldA 2 (tp 3)),og 10 true 14 (.load none (tp 13)),og 10 true 15 (.bin .eql (tp 12) (tp 14)),oo 16 (.pick (tp 10) (tp 15) (cq false)),mq 17 16,og 17 true 18 (.fieldA 3 (tp 2)),og 17 true 19 (.load none (tp 18)),og 17 true 20 (.fieldA 3 (tp 3)),og 17 true 21 (.load none (tp 20)),og 17 true 22 (.call 45 [tp 19,tp 21]),oo 23 (.pick (tp 17) (tp 22) (cq false)),mq 24 23,og 24 true 25 (.fieldA 4 (tp 2)),og 24 true 26 (.load none (tp 25)),og 24 true 27 (.fieldA 4 (tp 3)),og 24 true 28 (.load none (tp 27)),og 24 true 29 (.call 45 [tp 26,tp 28]),oo 30 (.pick (tp 24) (tp 29) (cq false)),mq 4 30] [4] .ret))
def an_zb37x : Ann := ann (List.range 2) ac_zb37x
theorem ok_zb37x : okd Tryz.prog an_zb37x ac_zb37x Tryz.f108 := ⟨by kernel_rfl, by kernel_rfl⟩

def ac_zkuzu : AC := (sr [oo 2 (.mv (cq false))] [0] (sr [mq 3 0,mq 4 0,oo 5 (.bin .neq (tp 3) (tp 4)),mq 2 5] [2] .ret))
def an_zkuzu : Ann := ann (List.range 2) ac_zkuzu
theorem ok_zkuzu : okd Tryz.prog an_zkuzu ac_zkuzu Tryz.f114 := ⟨by kernel_rfl, by kernel_rfl⟩

def ac_zte1c : AC := (sr [oo 4 (.mv (cq false))] [0,1] (sr [mq 5 0,oo 6 (.call 114 [tp 5]),mq 7 6,og 7 true 8 (.mv (tp 1)),og 7 true 9 (.call 114 [tp 8]),og 7 true 10 (.un .not (tp 9)),oo 11 (.pick (tp 7) (tp 10) (cq false)),mq 12 11,og 12 false 13 (.mv (tp 0)),og 12 false 14 (.mv (tp 1)),og 12 false 15 (.bin .lss (tp 13) (tp 14)),oo 16 (.pick (tp 12) (cq true) (tp 15)),mq 4 16] [4] .ret))
def an_zte1c : Ann := ann (List.range 2) ac_zte1c
theorem ok_zte1c : okd Tryz.prog an_zte1c ac_zte1c Tryz.f125 := ⟨by kernel_rfl, by kernel_rfl⟩

def ac_ztrsy : AC := (sr [oo 2 (.mv (cq false))] [0] (sr [mq 3 0,oo 4 (.bin .eql (tp 3) (.const (.string ⟨#[]⟩))),mq 5 4,og 5 false 6 (.mv (tp 0)),og 5 false 7 (.call 71 [tp 6]),oo 8 (.pick (tp 5) (cq true) (tp 7)),mq 2 8] [2] .ret))
def an_ztrsy : Ann := ann (List.range 2) ac_ztrsy
theorem ok_ztrsy : okd Tryz.prog an_ztrsy ac_ztrsy Tryz.f129 := ⟨by kernel_rfl, by kernel_rfl⟩

def ac_zlask : AC := (sr [oo 2 (.mv (cq false))] [0] (sr [mq 3 0,oo 4 (.len (tp 3) false),oo 5 (.bin .leq (tp 4) (ci 8)),mq 6 5,og 6 true 7 (.mv (tp 0)),og 6 true 8 (.call 169 [tp 7,.func 170]),og 6 true 9 (.un .not (tp 8)),oo 10 (.pick (tp 6) (tp 9) (cq false)),mq 2 10] [2] .ret))
def an_zlask : Ann := ann (List.range 2) ac_zlask
theorem ok_zlask : okd Tryz.prog an_zlask ac_zlask Tryz.f130 := ⟨by kernel_rfl, by kernel_rfl⟩

def ac_zi87h : AC := (sr [oo 1 (.box 77 (tp 0)),oo 2 (.mv (cq false))] [1] (sr [oo 3 (.mv (.func 178))] [1,3] (.seq (.block 0 (sr [fi 5 0 1,oo 6 (.load (some 2) (tp 5)),oo 7 (.call 181 [tp 6]),oo 8 (.un .not (tp 7)),mq 9 8,og 9 false 10 (.fieldA 2 (tp 1)),og 9 false 11 (.load none (tp 10)),og 9 false 12 (.bin .neq (tp 11) (.const (.string ⟨#[]⟩))),og 9 false 13 (.mv (tp 12)),og 13 true 14 (.fieldA 2 (tp 1)),og 13 true 15 (.load none (tp 14)),og 13 true 16 (.call 182 [tp 15]),og 13 true 17 (.un .not (tp 16)),og 9 false 18 (.pick (tp 13) (tp 17) (cq false)),oo 19 (.pick (tp 9) (cq true) (tp 18)),mq 4 19] [1,3,4] (.cond (tp 4) (sr [oo 2 (.mv (cq false))] [2] .ret) (sr [fi 21 3 1,lq 22 21,oo 23 (.len (tp 22) false),oo 24 (.bin .gtr (tp 23) (ci 8)),mq 25 24,og 25 false 26 (.fieldA 3 (tp 1)),og 25 false 27 (.load none (tp 26)),og 25 false 28 (.mv (tp 3)),og 25 false 29 (.call 183 [tp 27,tp 28]),oo 30 (.pick (tp 25) (cq true) (tp 29)),mq 31 30,og 31 false 32 (.fieldA 3 (tp 1)),og 31 false 33 (.load none (tp 32)),og 31 false 34 (.call 184 [tp 33,.func 185]),oo 35 (.pick (tp 31) (cq true) (tp 34)),mq 20 35] [1,20] (.cond (tp 20) (sr [oo 2 (.mv (cq false))] [2] .ret) .skip))))) (sr [fi 36 4 1,lq 37 36,oo 38 (.len (tp 37) false),oo 39 (.bin .leq (tp 38) (ci 8)),mq 40 39,og 40 true 41 (.fieldA 4 (tp 1)),og 40 true 42 (.load none (tp 41)),og 40 true 43 (.call 186 [tp 42]),oo 44 (.pick (tp 40) (tp 43) (cq false)),mq 45 44,og 45 true 46 (.fieldA 4 (tp 1)),og 45 true 47 (.load none (tp 46)),og 45 true 48 (.call 184 [tp 47,.func 187]),og 45 true 49 (.un .not (tp 48)),oo 50 (.pick (tp 45) (tp 49) (cq false)),mq 2 50] [2] .ret))))
def an_zi87h : Ann := ann (List.range 7) ac_zi87h
theorem ok_zi87h : okd Tryz.prog an_zi87h ac_zi87h Tryz.f142 := ⟨by kernel_rfl, by kernel_rfl⟩

def ac_zhmnj : AC := (sr [oo 2 (.mv (cq false))] [0] (.seq (sr [mq 6 0,oo 7 (.len (tp 6) false),oo 8 (.mv (ci 0))] [0,6,7,8] (.block 0 (.loop (sr [oo 9 (.bin .lss (tp 8) (tp 7))] [0,6,7,8,9] (.seq (.cond (tp 9) .skip (.exit 0)) (.seq (.block 1 (sr [mq 10 8,oo 11 (.idxA 8 (tp 6) (tp 8)),oo 12 (.load (some 8) (tp 11)),oo 4 (.alloc 118 [.pd (.raw (.int .i64 0)),.pd (.raw (.string ⟨#[]⟩)),.pd (.raw (.string ⟨#[]⟩)),.pd (.raw (.string ⟨#[]⟩)),.pd (.raw (.int .i64 0)),.pd (.raw (.string ⟨#[]⟩)),.pd (.raw (.bool false)),.pd (.raw (.int .i64 0))]),mq 3 10,.mk none none (.store 8 (tp 4) (tp 12))] [0,3,4,6,7,8] (sr [oo 13 (.mkfn 188 [tp 4]),mq 5 13] [0,3,4,5,6,7,8] (sr [oo 14 (.load (some 8) (tp 4)),oo 15 (.call 190 [tp 14]),oo 16 (.un .not (tp 15)),mq 17 16,og 17 false 18 (.mv (tp 0)),og 17 false 19 (.mv (tp 3)),og 17 false 20 (.slcL 8 (tp 18) none (some (tp 19))),og 17 false 21 (.mv (tp 5)),og 17 false 22 (.call 191 [tp 20,tp 21]),oo 23 (.pick (tp 17) (cq true) (tp 22))] [0,6,7,8,23] (.cond (tp 23) (sr [oo 2 (.mv (cq false))] [2] .ret) .skip))))) (.region [oo 24 (.bin .add (tp 8) (ci 1)),mq 8 24] (some [0,6,7,8])))))))) (sr [mq 25 0,oo 26 (.len (tp 25) false),oo 27 (.bin .leq (tp 26) (ci 8)),mq 2 27] [2] .ret)))
def an_zhmnj : Ann := ann (List.range 9) ac_zhmnj
theorem ok_zhmnj : okd Tryz.prog an_zhmnj ac_zhmnj Tryz.f143 := ⟨by kernel_rfl, by kernel_rfl⟩

def ac_z2jf5 : AC := (sr [oo 1 (.box 55 (tp 0)),oo 2 (.mv (cq false))] [1] (sr [fi 3 0 1,fi 4 0 3,lq 5 4,oo 6 (.call 72 [tp 5]),mq 7 6,og 7 true 8 (.fieldA 0 (tp 1)),og 7 true 9 (.fieldA 1 (tp 8)),og 7 true 10 (.load none (tp 9)),og 7 true 11 (.call 129 [tp 10]),oo 12 (.pick (tp 7) (tp 11) (cq false)),mq 13 12,og 13 true 14 (.fieldA 0 (tp 1)),og 13 true 15 (.fieldA 2 (tp 14)),og 13 true 16 (.load none (tp 15)),og 13 true 17 (.call 70 [tp 16]),oo 18 (.pick (tp 13) (tp 17) (cq false)),mq 19 18,og 19 true 20 (.fieldA 3 (tp 1)),og 19 true 21 (.load none (tp 20)),og 19 true 22 (.bin .eql (tp 21) (ci 0)),og 19 true 23 (.mv (tp 22)),og 23 false 24 (.fieldA 3 (tp 1)),og 23 false 25 (.load none (tp 24)),og 23 false 26 (.call 78 [tp 25]),og 19 true 27 (.pick (tp 23) (cq true) (tp 26)),oo 28 (.pick (tp 19) (tp 27) (cq false)),mq 29 28,og 29 true 30 (.fieldA 4 (tp 1)),og 29 true 31 (.load none (tp 30)),og 29 true 32 (.bin .geq (tp 31) (ci 0)),oo 33 (.pick (tp 29) (tp 32) (cq false)),mq 34 33,og 34 true 35 (.fieldA 4 (tp 1)),og 34 true 36 (.load none (tp 35)),og 34 true 37 (.bin .leq (tp 36) (ci 1000)),oo 38 (.pick (tp 34) (tp 37) (cq false)),mq 2 38] [2] .ret))
def an_z2jf5 : Ann := ann (List.range 2) ac_z2jf5
theorem ok_z2jf5 : okd Tryz.prog an_z2jf5 ac_z2jf5 Tryz.f145 := ⟨by kernel_rfl, by kernel_rfl⟩

def ac_zvpxe : AC := (sr [oo 2 (.box 116 (tp 0)),oo 3 (.box 116 (tp 1)),oo 4 (.mv (cq false))] [2,3] (sr [fi 5 0 2,lq 6 5,fi 7 0 3,lq 8 7,oo 9 (.bin .eql (tp 6) (tp 8)),mq 10 9,og 10 true 11 (.fieldA 1 (tp 2)),og 10 true 12 (.load none (tp 11)),og 10 true 13 (.fieldA 1 (tp 3)),og 10 true 14 (.load none (tp 13)),og 10 true 15 (.bin .eql (tp 12) (tp 14)),oo 16 (.pick (tp 10) (tp 15) (cq false)),mq 17 16,og 17 true 18 (.fieldA 2 (tp 2)),og 17 true 19 (.load none (tp 18)),og 17 true 20 (.fieldA 2 (tp 3)),og 17 true 21 (.load none (tp 20)),og 17 true 22 (.call 47 [tp 19,tp 21]),oo 23 (.pick (tp 17) (tp 22) (cq false)),mq 4 23] [4] .ret))
def an_zvpxe : Ann := ann (List.range 2) ac_zvpxe
theorem ok_zvpxe : okd Tryz.prog an_zvpxe ac_zvpxe Tryz.f153 := ⟨by kernel_rfl, by kernel_rfl⟩

def ac_zdaaj : AC := (sr [oo 1 (.box 116 (tp 0)),oo 2 (.mv (cq false))] [1] (sr [oo 3 (.load (some 3) (tp 1)),oo 4 (.call 171 [tp 3]),oo 5 (.isnil false (tp 4)),mq 2 5] [2] .ret))
def an_zdaaj : Ann := ann (List.range 2) ac_zdaaj
theorem ok_zdaaj : okd Tryz.prog an_zdaaj ac_zdaaj Tryz.f170 := ⟨by kernel_rfl, by kernel_rfl⟩

def ac_zyjit : AC := (sr [oo 1 (.box 116 (tp 0)),oo 2 (.mv (.const .nilIface))] [1] (sr [fi 4 2 1,lq 5 4,oo 6 (.len (tp 5) false),oo 7 (.bin .geq (tp 6) (ci 1)),mq 8 7,og 8 true 9 (.fieldA 2 (tp 1)),og 8 true 10 (.load none (tp 9)),og 8 true 11 (.len (tp 10) false),og 8 true 12 (.bin .leq (tp 11) (ci 8)),oo 13 (.pick (tp 8) (tp 12) (cq false)),mq 14 13,og 14 true 15 (.fieldA 2 (tp 1)),og 14 true 16 (.load none (tp 15)),og 14 true 17 (.call 134 [tp 16,.func 212]),og 14 true 18 (.un .not (tp 17)),oo 19 (.pick (tp 14) (tp 18) (cq false)),mq 3 19] [1,3] (.seq (.block 0 (sr [fi 21 1 1,lq 22 21,oo 23 (.call 70 [tp 22]),oo 24 (.un .not (tp 23)),mq 20 24] [1,3,20] (.cond (tp 20) (sr [oo 2 (.mv (.const .nilIface))] [2] .ret) (sr [fi 26 0 1,lq 27 26,oo 28 (.bin .eql (tp 27) (ci 1)),mq 29 28,og 29 true 30 (.mv (tp 3)),oo 31 (.pick (tp 29) (tp 30) (cq false)),mq 25 31] [1,3,25] (.cond (tp 25) (sr [fi 32 1 1,lq 33 32,fi 34 2 1,lq 35 34,oo 36 (.build [.pd (.raw (.string ⟨#[]⟩)),.nils] [(0,1,tp 33),(1,1,tp 35)]),oo 37 (.mkif 212 (tp 36)),mq 2 37] [2] .ret) (sr [fi 39 0 1,lq 40 39,oo 41 (.bin .eql (tp 40) (ci 2)),mq 42 41,og 42 true 43 (.mv (tp 3)),oo 44 (.pick (tp 42) (tp 43) (cq false)),mq 38 44] [1,38] (.cond (tp 38) (sr [fi 45 1 1,lq 46 45,fi 47 2 1,lq 48 47,oo 49 (.build [.pd (.raw (.string ⟨#[]⟩)),.nils] [(0,1,tp 46),(1,1,tp 48)]),oo 50 (.build [.pd (.raw (.string ⟨#[]⟩)),.nils] [(0,2,tp 49)]),oo 51 (.mkif 214 (tp 50)),mq 2 51] [2] .ret) (sr [fi 53 0 1,lq 54 53,oo 55 (.bin .eql (tp 54) (ci 3)),mq 56 55,og 56 true 57 (.fieldA 2 (tp 1)),og 56 true 58 (.load none (tp 57)),og 56 true 59 (.len (tp 58) false),og 56 true 60 (.bin .eql (tp 59) (ci 0)),oo 61 (.pick (tp 56) (tp 60) (cq false)),mq 52 61] [1,52] (.cond (tp 52) (sr [fi 62 1 1,lq 63 62,oo 64 (.mkif 215 (tp 63)),mq 2 64] [2] .ret) (sr [fi 66 0 1,lq 67 66,oo 68 (.bin .eql (tp 67) (ci 4)),mq 69 68,og 69 true 70 (.fieldA 2 (tp 1)),og 69 true 71 (.load none (tp 70)),og 69 true 72 (.len (tp 71) false),og 69 true 73 (.bin .eql (tp 72) (ci 0)),oo 74 (.pick (tp 69) (tp 73) (cq false)),mq 65 74] [1,65] (.cond (tp 65) (sr [fi 75 1 1,lq 76 75,oo 77 (.build [.pd (.raw (.string ⟨#[]⟩))] [(0,1,tp 76)]),oo 78 (.mkif 217 (tp 77)),mq 2 78] [2] .ret) .skip))))))))))) (sr [oo 2 (.mv (.const .nilIface))] [2] .ret))))
def an_zyjit : Ann := ann (List.range 13) ac_zyjit
theorem ok_zyjit : okd Tryz.prog an_zyjit ac_zyjit Tryz.f171 := ⟨by kernel_rfl, by kernel_rfl⟩

def ac_zqrzx : AC := (sr [oo 1 (.box 88 (tp 0)),oo 2 (.mv (cq false))] [1] (sr [fi 3 0 1,lq 4 3,oo 5 (.call 179 [tp 4]),oo 6 (.un .not (tp 5)),mq 7 6,og 7 false 8 (.fieldA 1 (tp 1)),og 7 false 9 (.load none (tp 8)),og 7 false 10 (.call 180 [tp 9]),og 7 false 11 (.un .not (tp 10)),oo 12 (.pick (tp 7) (cq true) (tp 11)),mq 2 12] [2] .ret))
def an_zqrzx : Ann := ann (List.range 2) ac_zqrzx
theorem ok_zqrzx : okd Tryz.prog an_zqrzx ac_zqrzx Tryz.f178 := ⟨by kernel_rfl, by kernel_rfl⟩

def ac_z6for : AC := (sr [oo 3 (.box 130 (tp 1)),oo 4 (.mv (cq false))] [0,3] (.seq (sr [mq 7 0,oo 8 (.len (tp 7) false),oo 9 (.mv (ci 0))] [0,3,7,8,9] (.block 0 (.loop (sr [oo 10 (.bin .lss (tp 9) (tp 8))] [0,3,7,8,9,10] (.seq (.cond (tp 10) .skip (.exit 0)) (.seq (.block 1 (sr [mq 11 9,oo 12 (.idxA 2 (tp 7) (tp 9)),oo 13 (.load (some 2) (tp 12)),oo 6 (.alloc 88 [.pd (.raw (.string ⟨#[]⟩)),.pd (.raw (.string ⟨#[]⟩))]),mq 5 11,.mk none none (.store 2 (tp 6) (tp 13))] [0,3,5,6,7,8,9] (sr [mq 14 0,mq 15 5,oo 16 (.slcL 2 (tp 14) none (some (tp 15))),oo 17 (.mkfn 221 [tp 3,tp 6]),oo 18 (.call 183 [tp 16,tp 17])] [0,3,7,8,9,18] (.cond (tp 18) (sr [oo 4 (.mv (cq true))] [4] .ret) .skip)))) (.region [oo 19 (.bin .add (tp 9) (ci 1)),mq 9 19] (some [0,3,7,8,9])))))))) (sr [oo 4 (.mv (cq false))] [4] .ret)))
def an_z6for : Ann := ann (List.range 8) ac_z6for
theorem ok_z6for : okd Tryz.prog an_z6for ac_z6for Tryz.f184 := ⟨by kernel_rfl, by kernel_rfl⟩

def ac_zwio7 : AC := (sr [oo 4 (.mv (cq false))] [0,1] (sr [mq 5 0,mq 6 1,oo 7 (.bin .eql (tp 5) (tp 6)),mq 4 7] [4] .ret))
def an_zwio7 : Ann := ann (List.range 2) ac_zwio7
theorem ok_zwio7 : okd Tryz.prog an_zwio7 ac_zwio7 Tryz.f187 := ⟨by kernel_rfl, by kernel_rfl⟩

def ac_z38ed : AC := (sr [oo 2 (.box 118 (tp 0)),oo 3 (.mv (cq false))] [1,2] (sr [oo 4 (.load (some 8) (tp 2)),oo 5 (.call 189 [tp 4]),mq 6 5,og 6 true 7 (.load (some 8) (tp 1)),og 6 true 8 (.call 189 [tp 7]),oo 9 (.pick (tp 6) (tp 8) (cq false)),mq 10 9,og 10 false 11 (.fieldA 0 (tp 2)),og 10 false 12 (.load none (tp 11)),og 10 false 13 (.fieldA 0 (tp 1)),og 10 false 14 (.load none (tp 13)),og 10 false 15 (.bin .eql (tp 12) (tp 14)),og 10 false 16 (.mv (tp 15)),og 16 true 17 (.fieldA 1 (tp 2)),og 16 true 18 (.load none (tp 17)),og 16 true 19 (.fieldA 1 (tp 1)),og 16 true 20 (.load none (tp 19)),og 16 true 21 (.call 185 [tp 18,tp 20]),og 10 false 22 (.pick (tp 16) (tp 21) (cq false)),oo 23 (.pick (tp 10) (cq true) (tp 22)),mq 3 23] [3] .ret))
def an_z38ed : Ann := ann (List.range 2) ac_z38ed
theorem ok_z38ed : okd Tryz.prog an_z38ed ac_z38ed Tryz.f188 := ⟨by kernel_rfl, by kernel_rfl⟩

def ac_zm6be : AC := (sr [oo 1 (.box 118 (tp 0)),oo 2 (.mv (cq false))] [1] (sr [fi 3 0 1,lq 4 3,oo 5 (.bin .eql (tp 4) (ci 4)),mq 6 5,og 6 false 7 (.fieldA 0 (tp 1)),og 6 false 8 (.load none (tp 7)),og 6 false 9 (.bin .eql (tp 8) (ci 5)),oo 10 (.pick (tp 6) (cq true) (tp 9)),mq 2 10] [2] .ret))
def an_zm6be : Ann := ann (List.range 2) ac_zm6be
theorem ok_zm6be : okd Tryz.prog an_zm6be ac_zm6be Tryz.f189 := ⟨by kernel_rfl, by kernel_rfl⟩

def ac_zhj59 : AC := (sr [oo 1 (.box 118 (tp 0)),oo 2 (.mv (cq false))] [1] (.seq (sr [fi 3 0 1,lq 4 3] [1,4] (.block 0 (.seq (sr [oo 6 (.bin .eql (tp 4) (ci 1)),mq 5 6] [1,4,5] (.cond (tp 5) .skip (.region [oo 7 (.bin .eql (tp 4) (ci 2)),mq 5 7] (some [1,4,5])))) (.cond (tp 5) (sr [oo 8 (.load (some 8) (tp 1)),fi 9 0 1,lq 10 9,fi 11 1 1,lq 12 11,fi 13 2 1,lq 14 13,oo 15 (.build [.pd (.raw (.int .i64 0)),.pd (.raw (.string ⟨#[]⟩)),.pd (.raw (.string ⟨#[]⟩)),.pd (.raw (.string ⟨#[]⟩)),.pd (.raw (.int .i64 0)),.pd (.raw (.string ⟨#[]⟩)),.pd (.raw (.bool false)),.pd (.raw (.int .i64 0))] [(0,1,tp 10),(1,1,tp 12),(2,1,tp 14)]),oo 16 (.eqs false [.int,.str,.str,.str,.int,.str,.bool,.int] (tp 8) (tp 15)),mq 17 16,og 17 true 18 (.fieldA 1 (tp 1)),og 17 true 19 (.load none (tp 18)),og 17 true 20 (.call 179 [tp 19]),oo 21 (.pick (tp 17) (tp 20) (cq false)),mq 22 21,og 22 true 23 (.fieldA 2 (tp 1)),og 22 true 24 (.load none (tp 23)),og 22 true 25 (.call 180 [tp 24]),oo 26 (.pick (tp 22) (tp 25) (cq false)),mq 2 26] [2] .ret) (sr [oo 28 (.bin .eql (tp 4) (ci 3)),mq 27 28] [1,4,27] (.cond (tp 27) (sr [oo 29 (.load (some 8) (tp 1)),fi 30 0 1,lq 31 30,fi 32 1 1,lq 33 32,oo 34 (.build [.pd (.raw (.int .i64 0)),.pd (.raw (.string ⟨#[]⟩)),.pd (.raw (.string ⟨#[]⟩)),.pd (.raw (.string ⟨#[]⟩)),.pd (.raw (.int .i64 0)),.pd (.raw (.string ⟨#[]⟩)),.pd (.raw (.bool false)),.pd (.raw (.int .i64 0))] [(0,1,tp 31),(1,1,tp 33)]),oo 35 (.eqs false [.int,.str,.str,.str,.int,.str,.bool,.int] (tp 29) (tp 34)),mq 36 35,og 36 true 37 (.fieldA 1 (tp 1)),og 36 true 38 (.load none (tp 37)),og 36 true 39 (.call 179 [tp 38]),oo 40 (.pick (tp 36) (tp 39) (cq false)),mq 2 40] [2] .ret) (sr [oo 42 (.bin .eql (tp 4) (ci 4)),mq 41 42] [1,4,41] (.cond (tp 41) (sr [fi 43 1 1,lq 44 43,oo 45 (.bin .eql (tp 44) (.const (.string ⟨#[]⟩))),mq 46 45,og 46 true 47 (.fieldA 2 (tp 1)),og 46 true 48 (.load none (tp 47)),og 46 true 49 (.bin .eql (tp 48) (.const (.string ⟨#[]⟩))),oo 50 (.pick (tp 46) (tp 49) (cq false)),mq 51 50,og 51 true 52 (.load (some 8) (tp 1)),og 51 true 53 (.call 223 [tp 52]),oo 54 (.pick (tp 51) (tp 53) (cq false)),mq 55 54,og 55 true 56 (.fieldA 4 (tp 1)),og 55 true 57 (.load none (tp 56)),og 55 true 58 (.bin .geq (tp 57) (ci 0)),oo 59 (.pick (tp 55) (tp 58) (cq false)),mq 60 59,og 60 true 61 (.fieldA 4 (tp 1)),og 60 true 62 (.load none (tp 61)),og 60 true 63 (.bin .leq (tp 62) (ci 65535)),oo 64 (.pick (tp 60) (tp 63) (cq false)),mq 65 64,og 65 true 66 (.fieldA 7 (tp 1)),og 65 true 67 (.load none (tp 66)),og 65 true 68 (.bin .eql (tp 67) (ci 301)),og 65 true 69 (.mv (tp 68)),og 69 false 70 (.fieldA 7 (tp 1)),og 69 false 71 (.load none (tp 70)),og 69 false 72 (.bin .eql (tp 71) (ci 302)),og 65 true 73 (.pick (tp 69) (cq true) (tp 72)),oo 74 (.pick (tp 65) (tp 73) (cq false)),mq 2 74] [2] .ret) (sr [oo 76 (.bin .eql (tp 4) (ci 5)),mq 75 76] [1,75] (.cond (tp 75) (sr [oo 77 (.load (some 8) (tp 1)),fi 78 0 1,lq 79 78,fi 80 3 1,lq 81 80,fi 82 5 1,lq 83 82,fi 84 6 1,lq 85 84,oo 86 (.build [.pd (.raw (.int .i64 0)),.pd (.raw (.string ⟨#[]⟩)),.pd (.raw (.string ⟨#[]⟩)),.pd (.raw (.string ⟨#[]⟩)),.pd (.raw (.int .i64 0)),.pd (.raw (.string ⟨#[]⟩)),.pd (.raw (.bool false)),.pd (.raw (.int .i64 0))] [(0,1,tp 79),(3,1,tp 81),(5,1,tp 83),(6,1,tp 85)]),oo 87 (.eqs false [.int,.str,.str,.str,.int,.str,.bool,.int] (tp 77) (tp 86)),mq 88 87,og 88 true 89 (.load (some 8) (tp 1)),og 88 true 90 (.call 223 [tp 89]),oo 91 (.pick (tp 88) (tp 90) (cq false)),mq 92 91,og 92 true 93 (.fieldA 3 (tp 1)),og 92 true 94 (.load none (tp 93)),og 92 true 95 (.bin .neq (tp 94) (.const (.string ⟨#[]⟩))),og 92 true 96 (.mv (tp 95)),og 96 false 97 (.fieldA 5 (tp 1)),og 96 false 98 (.load none (tp 97)),og 96 false 99 (.bin .neq (tp 98) (.const (.string ⟨#[]⟩))),og 92 true 100 (.pick (tp 96) (cq true) (tp 99)),oo 101 (.pick (tp 92) (tp 100) (cq false)),mq 2 101] [2] .ret) .skip)))))))))) (sr [oo 2 (.mv (cq false))] [2] .ret)))
def an_zhj59 : Ann := ann (List.range 12) ac_zhj59
theorem ok_zhj59 : okd Tryz.prog an_zhj59 ac_zhj59 Tryz.f190 := ⟨by kernel_rfl, by kernel_rfl⟩

def ac_zuzx4 : AC := (sr [oo 2 (.mv (cq false))] [0] (sr [mq 3 0,oo 4 (.call 122 [tp 3]),oo 5 (.un .not (tp 4)),mq 2 5] [2] .ret))
def an_zuzx4 : Ann := ann (List.range 2) ac_zuzx4
theorem ok_zuzx4 : okd Tryz.prog an_zuzx4 ac_zuzx4 Tryz.f212 := ⟨by kernel_rfl, by kernel_rfl⟩

def ac_zpw6o : AC := (sr [oo 3 (.box 88 (tp 0)),oo 4 (.mv (cq false))] [1,2,3] (sr [lq 5 1,fi 6 0 3,lq 7 6,fi 8 0 2,lq 9 8,oo 10 (.callv (tp 5) [tp 7,tp 9]),mq 4 10] [4] .ret))
def an_zpw6o : Ann := ann (List.range 2) ac_zpw6o
theorem ok_zpw6o : okd Tryz.prog an_zpw6o ac_zpw6o Tryz.f221 := ⟨by kernel_rfl, by kernel_rfl⟩

def ac_z3d8y : AC := (sr [oo 1 (.box 118 (tp 0)),oo 2 (.mv (cq false))] [1] (.seq (sr [fi 3 3 1,lq 4 3,oo 5 (.bin .neq (tp 4) (.const (.string ⟨#[]⟩))),mq 6 5,og 6 true 7 (.fieldA 3 (tp 1)),og 6 true 8 (.load none (tp 7)),og 6 true 9 (.call 70 [tp 8]),og 6 true 10 (.un .not (tp 9)),oo 11 (.pick (tp 6) (tp 10) (cq false))] [1,11] (.cond (tp 11) (sr [oo 2 (.mv (cq false))] [2] .ret) .skip)) (.seq (.block 0 (sr [fi 13 5 1,lq 14 13,oo 15 (.bin .eql (tp 14) (.const (.string ⟨#[]⟩))),mq 12 15] [1,12] (.cond (tp 12) (sr [fi 16 6 1,lq 17 16,oo 18 (.un .not (tp 17)),mq 2 18] [2] .ret) (sr [fi 20 6 1,lq 21 20,mq 19 21] [1,19] (.cond (tp 19) (sr [fi 22 5 1,lq 23 22,oo 24 (.call 217 [tp 23]),mq 2 24] [2] .ret) .skip))))) (sr [fi 25 5 1,lq 26 25,oo 27 (.build [.pd (.raw (.int .i64 0)),.pd (.raw (.string ⟨#[]⟩))] [(0,1,ci 2),(1,1,tp 26)]),oo 28 (.call 181 [tp 27]),mq 2 28] [2] .ret))))
def an_z3d8y : Ann := ann (List.range 8) ac_z3d8y
theorem ok_z3d8y : okd Tryz.prog an_z3d8y ac_z3d8y Tryz.f223 := ⟨by kernel_rfl, by kernel_rfl⟩


def ac_zn42u : AC := (sr [oo 1 (.box 23 (tp 0)),oo 2 (.alloc 23 [.pd (.raw (.int .i64 0)),.pd (.raw (.string ⟨#[]⟩)),.pd (.raw (.string ⟨#[]⟩))])] [1,2] (.seq (.draw [fi 3 0 1,lq 4 3,fi 5 1 1,lq 6 5,oo 7 (.call 21 [tp 6]),fi 8 2 1,lq 9 8,oo 10 (.call 21 [tp 9]),oo 11 (.build [.pd (.raw (.int .i64 0)),.pd (.raw (.string ⟨#[]⟩)),.pd (.raw (.string ⟨#[]⟩))] [(0,1,tp 4),(1,1,tp 7),(2,1,tp 10)]),.mk none none (.store 3 (tp 2) (tp 11))] [0,1,0,4,12,0,32,124,255,511] (.take 0 (.take 1 (.take 2 (.take 3 (.take 5 (.take 6 (.alts (.cons 4 false (.alts (.cons 7 false (.take 8 (.alts (.cons 9 true .done .nil))) .nil)) .nil)))))))) (some [2])) .ret))
def an_zn42u : Ann := ann (List.range 2) ac_zn42u
theorem ok_zn42u : okd Tryz.prog an_zn42u ac_zn42u Tryz.f19 := ⟨by kernel_rfl, by kernel_rfl⟩
theorem ret_zn42u (st : St) : resD Tryz.prog st Tryz.f19.results.toList = resA st [.cell 2 (some 3)] := resD_of (by kernel_rfl)

def ac_zba9k : AC := (sr [oo 2 (.mv (.const (.string ⟨#[]⟩)))] [0] (.seq (sr [mq 3 0,oo 4 (.len (tp 3) true),oo 5 (.bin .gtr (tp 4) (ci 100))] [0,5] (.cond (tp 5) (sr [mq 6 0,oo 7 (.slcS (tp 6) none (some (ci 100))),mq 2 7] [2] .ret) .skip)) (sr [mq 8 0,mq 2 8] [2] .ret)))
def an_zba9k : Ann := ann (List.range 4) ac_zba9k
theorem ok_zba9k : okd Tryz.prog an_zba9k ac_zba9k Tryz.f21 := ⟨by kernel_rfl, by kernel_rfl⟩



def ac_zcgc1 : AC := (sr [oo 3 (.box 23 (tp 0)),oo 4 (.box 23 (tp 1)),oo 6 (.mv (cq false))] [2,3,4] (.seq (.draw [oo 15 (.load (some 3) (tp 3)),oo 16 (.call 19 [tp 15]),oo 17 (.load (some 3) (tp 4)),oo 18 (.call 19 [tp 17]),mq 19 2,oo 20 (.call 21 [tp 19]),.mk none none (.store 3 (tp 3) (tp 16)),.mk none none (.store 3 (tp 4) (tp 18)),mq 2 20] [0,1,0,7,0,31,63,127,255] (.take 0 (.take 2 (.take 4 (.alts (.cons 1 false (.alts (.cons 3 false (.alts (.cons 5 true (.alts (.cons 6 true (.alts (.cons 7 true (.take 8 .done) .nil)) .nil)) .nil)) .nil)) .nil))))) (some [2,3,4])) (sr [oo 22 (.load (some 3) (tp 3)),oo 23 (.call 22 [tp 22]),mq 21 23,oo 24 (.extract (tp 21) 0),oo 25 (.extract (tp 21) 1),mq 7 24,mq 8 25] [2,3,4,7,8] (sr [mq 27 2,oo 28 (.call 23 [tp 27]),mq 26 28,oo 29 (.extract (tp 26) 0),oo 30 (.extract (tp 26) 1),oo 9 (.alloc 23 [.pd (.raw (.int .i64 0)),.pd (.raw (.string ⟨#[]⟩)),.pd (.raw (.string ⟨#[]⟩))]),.mk none none (.store 3 (tp 9) (tp 29)),mq 10 30] [2,3,4,7,8,9,10] (sr [mq 32 2,oo 33 (.call 24 [tp 32]),mq 31 33,oo 34 (.extract (tp 31) 0),oo 35 (.extract (tp 31) 1),oo 11 (.alloc 23 [.pd (.raw (.int .i64 0)),.pd (.raw (.string ⟨#[]⟩)),.pd (.raw (.string ⟨#[]⟩))]),.mk none none (.store 3 (tp 11) (tp 34)),mq 12 35] [3,4,7,8,9,10,11,12] (.seq (.seq (.draw [oo 36 (.load (some 3) (tp 3)),oo 37 (.call 25 [tp 36]),oo 38 (.load (some 3) (tp 3)),oo 39 (.call 26 [tp 38]),oo 40 (.binB true (tp 37) (tp 39)),mq 41 40,og 41 false 42 (.load (some 3) (tp 3)),og 41 false 43 (.load (some 3) (tp 4)),og 41 false 44 (.call 20 [tp 42,tp 43]),og 41 false 45 (.load (some 3) (tp 3)),og 41 false 46 (.load (some 3) (tp 4)),og 41 false 47 (.call 27 [tp 45,tp 46]),og 41 false 48 (.bin .neq (tp 44) (tp 47)),oo 49 (.pick (tp 41) (cq true) (tp 48)),mq 50 49,og 50 false 51 (.load (some 3) (tp 9)),og 50 false 52 (.load (some 3) (tp 11)),og 50 false 53 (.eqs true [.int,.str,.str] (tp 51) (tp 52)),oo 54 (.pick (tp 50) (cq true) (tp 53)),mq 55 54,og 55 false 56 (.mv (tp 10)),og 55 false 57 (.bin .eql (tp 56) (ci 0)),og 55 false 58 (.mv (tp 12)),og 55 false 59 (.binB true (tp 57) (tp 58)),oo 60 (.pick (tp 55) (cq true) (tp 59)),mq 61 60,og 61 false 62 (.mv (tp 12)),og 61 false 63 (.un .not (tp 62)),og 61 false 64 (.mv (tp 63)),og 64 true 65 (.mv (tp 10)),og 64 true 66 (.bin .neq (tp 65) (ci 2)),og 61 false 67 (.pick (tp 64) (tp 66) (cq false)),oo 68 (.pick (tp 61) (cq true) (tp 67))] [0,1,0,7,15,31,63,63,255,63,63,2047,4095,8191,16383,32767,32767,131071,262143,524287,1048575,2097151,1048575,8388607,16777215,33554431,67108863,134217727,268435455,536870911,1073741823,2147483647,4294967295] (.take 0 (.take 2 (.alts (.cons 1 false (.alts (.cons 3 true (.take 4 (.take 5 (.take 6 (.take 7 (.take 9 (.take 10 (.alts (.cons 8 false (.alts (.cons 11 true (.take 12 (.take 13 (.take 14 (.take 15 (.take 16 (.take 17 (.take 18 (.take 19 (.take 20 (.take 21 (.take 22 (.take 23 (.take 24 (.take 25 (.take 26 (.take 27 (.take 28 (.take 29 (.take 30 (.take 31 (.take 32 .done))))))))))))))))))))) .nil)) .nil)))))))) .nil)) .nil)))) (some [3,7,8,68])) (.cond (tp 68) (sr [oo 6 (.mv (cq false))] [6] .ret) .skip)) (.seq (sr [oo 69 (.load (some 3) (tp 3)),oo 70 (.call 26 [tp 69]),oo 71 (.un .not (tp 70))] [3,7,8,71] (.cond (tp 71) (sr [mq 72 7,oo 73 (.bin .eql (tp 72) (.const (.string ⟨#[]⟩))),mq 74 73,og 74 true 75 (.mv (tp 8)),og 74 true 76 (.bin .eql (tp 75) (ci 1)),oo 77 (.pick (tp 74) (tp 76) (cq false)),mq 78 77,og 78 true 79 (.call 15 []),oo 80 (.pick (tp 78) (tp 79) (cq false)),mq 6 80] [6] .ret) .skip)) (sr [mq 82 7,oo 83 (.call 23 [tp 82]),mq 81 83,oo 84 (.extract (tp 81) 0),oo 85 (.extract (tp 81) 1),oo 13 (.alloc 23 [.pd (.raw (.int .i64 0)),.pd (.raw (.string ⟨#[]⟩)),.pd (.raw (.string ⟨#[]⟩))]),.mk none none (.store 3 (tp 13) (tp 84)),mq 14 85] [3,7,8,13,14] (sr [mq 86 7,oo 87 (.load (some 3) (tp 3)),oo 88 (.call 28 [tp 87]),oo 89 (.bin .eql (tp 86) (tp 88)),mq 90 89,og 90 true 91 (.mv (tp 8)),og 90 true 92 (.bin .eql (tp 91) (ci 0)),oo 93 (.pick (tp 90) (tp 92) (cq false)),mq 94 93,og 94 true 95 (.load (some 3) (tp 13)),og 94 true 96 (.load (some 3) (tp 3)),og 94 true 97 (.eqs false [.int,.str,.str] (tp 95) (tp 96)),oo 98 (.pick (tp 94) (tp 97) (cq false)),mq 99 98,og 99 true 100 (.mv (tp 14)),og 99 true 101 (.bin .eql (tp 100) (ci 0)),oo 102 (.pick (tp 99) (tp 101) (cq false)),mq 103 102,og 103 true 104 (.call 15 []),oo 105 (.pick (tp 103) (tp 104) (cq false)),mq 6 105] [6] .ret)))))))))
def an_zcgc1 : Ann := ann (List.range 11) ac_zcgc1
theorem ok_zcgc1 : okd Tryz.prog an_zcgc1 ac_zcgc1 Tryz.f9 := ⟨by kernel_rfl, by kernel_rfl⟩

def ac_z7f18 : AC := (sr [oo 0 (.mv (cq false))] [] (sr [oo 5 (.call 58 []),oo 6 (.field 0 (some 3) (tp 5)),oo 7 (.call 22 [tp 6]),mq 4 7,oo 8 (.extract (tp 4) 0),oo 9 (.extract (tp 4) 1),mq 1 8,mq 2 9] [1,2] (sr [oo 10 (.build [.pd (.raw (.int .i64 0)),.pd (.raw (.string ⟨#[]⟩)),.pd (.raw (.string ⟨#[]⟩))] [(0,1,ci 2),(2,1,.const (.string ⟨#[119,101,98]⟩))]),oo 11 (.build [.pd (.raw (.int .i64 0)),.pd (.raw (.string ⟨#[]⟩)),.pd (.raw (.string ⟨#[]⟩))] [(0,1,ci 3),(1,1,.const (.string ⟨#[97,112,112]⟩)),(2,1,.const (.string ⟨#[97,112,105]⟩))]),oo 12 (.build [.pd (.raw (.int .i64 0)),.pd (.raw (.string ⟨#[]⟩)),.pd (.raw (.string ⟨#[]⟩))] [(0,1,ci 5),(1,1,.const (.string ⟨#[119,101,98]⟩)),(2,1,.const (.string ⟨#[103,119]⟩))]),oo 13 (.bslice 23 3 [tp 10,tp 11,tp 12]),mq 3 13] [1,2,3] (sr [oo 14 (.build [.pd (.raw (.int .i64 0)),.pd (.raw (.string ⟨#[]⟩)),.pd (.raw (.string ⟨#[]⟩))] [(0,1,ci 5),(1,1,.const (.string ⟨#[119,101,98]⟩)),(2,1,.const (.string ⟨#[103,119]⟩))]),oo 15 (.build [.pd (.raw (.int .i64 0)),.pd (.raw (.string ⟨#[]⟩)),.pd (.raw (.string ⟨#[]⟩)),.pd (.raw (.bool false)),.nils,.nils,.pd (.raw (.string ⟨#[]⟩)),.nils,.nils,.nils,.nils,.nils,.nils] [(0,3,tp 14),(6,1,.const (.string ⟨#[99]⟩))]),oo 16 (.call 11 [tp 15]),oo 17 (.un .not (tp 16)),mq 18 17,og 18 true 19 (.call 58 []),og 18 true 20 (.call 17 [tp 19]),og 18 true 21 (.mv (tp 3)),og 18 true 22 (.call 16 [tp 20,tp 21]),oo 23 (.pick (tp 18) (tp 22) (cq false)),mq 24 23,og 24 true 25 (.mv (tp 1)),og 24 true 26 (.bin .eql (tp 25) (.const (.string ⟨#[54,32,119,101,98,47,97]⟩))),oo 27 (.pick (tp 24) (tp 26) (cq false)),mq 28 27,og 28 true 29 (.mv (tp 2)),og 28 true 30 (.bin .eql (tp 29) (ci 0)),oo 31 (.pick (tp 28) (tp 30) (cq false)),mq 32 31,oo 33 (.pick (tp 32) (cq true) (cq false)),mq 34 33,oo 35 (.pick (tp 34) (cq true) (cq false)),mq 36 35,oo 37 (.pick (tp 36) (cq true) (cq false)),mq 38 37,oo 39 (.pick (tp 38) (cq true) (cq false)),mq 40 39,oo 41 (.pick (tp 40) (cq true) (cq false)),mq 42 41,oo 43 (.pick (tp 42) (cq true) (cq false)),mq 44 43,oo 45 (.pick (tp 44) (cq true) (cq false)),mq 46 45,oo 47 (.pick (tp 46) (cq true) (cq false)),mq 0 47] [0] .ret))))
def an_z7f18 : Ann := ann (List.range 4) ac_z7f18
theorem ok_z7f18 : okd Tryz.prog an_z7f18 ac_z7f18 Tryz.f15 := ⟨by kernel_rfl, by kernel_rfl⟩

def ac_zlfbg : AC := (sr [oo 0 (.alloc 32 [.pd (.raw (.int .i64 0)),.pd (.raw (.string ⟨#[]⟩)),.pd (.raw (.string ⟨#[]⟩)),.pd (.raw (.bool false)),.nils,.nils,.pd (.raw (.string ⟨#[]⟩)),.nils,.nils,.nils,.nils,.nils,.nils])] [0] (sr [oo 1 (.build [.pd (.raw (.int .i64 0)),.pd (.raw (.string ⟨#[]⟩)),.pd (.raw (.string ⟨#[]⟩))] [(0,1,ci 6),(1,1,.const (.string ⟨#[119,101,98]⟩)),(2,1,.const (.string ⟨#[97]⟩))]),oo 2 (.build [.pd (.raw (.string ⟨#[]⟩)),.pd (.raw (.string ⟨#[]⟩)),.pd (.raw (.string ⟨#[]⟩)),.pd (.raw (.int .i64 0))] [(1,1,.const (.string ⟨#[103,119]⟩))]),oo 3 (.bslice 48 4 [tp 2]),oo 4 (.build [.pd (.raw (.int .i64 0)),.pd (.raw (.string ⟨#[]⟩)),.pd (.raw (.string ⟨#[]⟩))] [(0,1,ci 3),(1,1,.const (.string ⟨#[97,112,112]⟩)),(2,1,.const (.string ⟨#[97,112,105]⟩))]),oo 5 (.build [.pd (.raw (.int .i64 0)),.pd (.raw (.string ⟨#[]⟩)),.pd (.raw (.string ⟨#[]⟩)),.pd (.raw (.int .i64 0)),.pd (.raw (.int .i64 0))] [(0,3,tp 4)]),oo 6 (.bslice 55 5 [tp 5]),oo 7 (.build [.nils,.nils,.nils] [(2,1,tp 6)]),oo 8 (.bslice 53 3 [tp 7]),oo 9 (.build [.pd (.raw (.int .i64 0)),.pd (.raw (.string ⟨#[]⟩)),.pd (.raw (.string ⟨#[]⟩)),.pd (.raw (.bool false)),.nils,.nils,.pd (.raw (.string ⟨#[]⟩)),.nils,.nils,.nils,.nils,.nils,.nils] [(0,3,tp 1),(8,1,tp 3),(10,1,tp 8)]),.mk none none (.store 13 (tp 0) (tp 9))] [0] .ret))
def an_zlfbg : Ann := ann (List.range 2) ac_zlfbg
theorem ok_zlfbg : okd Tryz.prog an_zlfbg ac_zlfbg Tryz.f58 := ⟨by kernel_rfl, by kernel_rfl⟩
theorem ret_zlfbg (st : St) : resD Tryz.prog st Tryz.f58.results.toList = resA st [.cell 0 (some 13)] := resD_of (by kernel_rfl)

def ac_z77de : AC := (sr [oo 4 (.mv (.const (.string ⟨#[]⟩))),oo 5 (.mv (ci 0))] [0,1] (.seq (sr [mq 6 0,oo 7 (.bin .neq (tp 6) (.const (.string ⟨#[]⟩))),mq 8 7,og 8 true 9 (.mv (tp 0)),og 8 true 10 (.call 71 [tp 9]),og 8 true 11 (.un .not (tp 10)),oo 12 (.pick (tp 8) (tp 11) (cq false)),mq 13 12,og 13 false 14 (.mv (tp 1)),og 13 false 15 (.call 70 [tp 14]),og 13 false 16 (.un .not (tp 15)),oo 17 (.pick (tp 13) (cq true) (tp 16))] [0,1,17] (.cond (tp 17) (sr [oo 4 (.mv (.const (.string ⟨#[]⟩))),oo 5 (.mv (ci 1))] [4,5] .ret) .skip)) (sr [mq 18 0,oo 19 (.bin .add (tp 18) (.const (.string ⟨#[47]⟩))),mq 20 1,oo 21 (.bin .add (tp 19) (tp 20)),mq 4 21,oo 5 (.mv (ci 0))] [4,5] .ret)))
def an_z77de : Ann := ann (List.range 4) ac_z77de
theorem ok_z77de : okd Tryz.prog an_z77de ac_z77de Tryz.f67 := ⟨by kernel_rfl, by kernel_rfl⟩

def ac_zvozq : AC := (sr [oo 2 (.mv (.const (.string ⟨#[]⟩))),oo 3 (.mv (.const (.string ⟨#[]⟩))),oo 4 (.mv (ci 0))] [0] (sr [mq 11 0,oo 12 (.call 116 [tp 11,.const (.string ⟨#[47]⟩)]),mq 10 12,oo 13 (.extract (tp 10) 0),oo 14 (.extract (tp 10) 1),oo 15 (.extract (tp 10) 2),mq 5 13,mq 6 14,mq 7 15] [0,5,6] (.seq (sr [mq 17 5,mq 18 6,oo 19 (.call 67 [tp 17,tp 18]),mq 16 19,oo 20 (.extract (tp 16) 0),oo 21 (.extract (tp 16) 1),mq 8 20,mq 9 21] [0,5,6,8,9] (sr [mq 22 9,oo 23 (.bin .neq (tp 22) (ci 0)),mq 24 23,og 24 false 25 (.mv (tp 8)),og 24 false 26 (.mv (tp 0)),og 24 false 27 (.bin .neq (tp 25) (tp 26)),oo 28 (.pick (tp 24) (cq true) (tp 27))] [5,6,28] (.cond (tp 28) (sr [oo 2 (.mv (.const (.string ⟨#[]⟩))),oo 3 (.mv (.const (.string ⟨#[]⟩))),oo 4 (.mv (ci 2))] [2,3,4] .ret) .skip))) (sr [mq 29 5,mq 30 6,mq 2 29,mq 3 30,oo 4 (.mv (ci 0))] [2,3,4] .ret))))
def an_zvozq : Ann := ann (List.range 6) ac_zvozq
theorem ok_zvozq : okd Tryz.prog an_zvozq ac_zvozq Tryz.f68 := ⟨by kernel_rfl, by kernel_rfl⟩

def ac_z5e2p : AC := (sr [oo 4 (.mv (.const (.string ⟨#[]⟩))),oo 5 (.mv (.const (.string ⟨#[]⟩))),oo 6 (.mv (cq false))] [0,1] (sr [mq 7 0,mq 8 1,oo 9 (.call 164 [tp 7,tp 8]),oo 10 (.extract (tp 9) 0),oo 11 (.extract (tp 9) 1),oo 12 (.extract (tp 9) 2),mq 4 10,mq 5 11,mq 6 12] [4,5,6] .ret))
def an_z5e2p : Ann := ann (List.range 2) ac_z5e2p
theorem ok_z5e2p : okd Tryz.prog an_z5e2p ac_z5e2p Tryz.f116 := ⟨by kernel_rfl, by kernel_rfl⟩

def ac_z7fbg : AC := (sr [oo 4 (.mv (.const (.string ⟨#[]⟩))),oo 5 (.mv (.const (.string ⟨#[]⟩))),oo 6 (.mv (cq false))] [0,1] (.seq (sr [mq 8 0,mq 9 1,oo 10 (.call 207 [tp 8,tp 9]),mq 7 10] [0,1,7] (sr [mq 11 7,oo 12 (.bin .geq (tp 11) (ci 0))] [0,1,7,12] (.cond (tp 12) (.seq (.draw [mq 13 0,mq 14 7,oo 15 (.slcS (tp 13) none (some (tp 14))),mq 16 0,mq 17 7,mq 18 1,oo 19 (.len (tp 18) true),oo 20 (.bin .add (tp 17) (tp 19)),oo 21 (.slcS (tp 16) (some (tp 20)) none),mq 4 15,mq 5 21,oo 6 (.mv (cq true))] [0,0,3,0,0,0,32,112,248,7,1023,2047] (.take 0 (.take 1 (.take 2 (.take 3 (.take 4 (.take 5 (.take 6 (.take 7 (.take 8 (.take 9 (.take 10 (.take 11 .done)))))))))))) (some [4,5,6])) .ret) .skip))) (sr [mq 22 0,mq 4 22,oo 5 (.mv (.const (.string ⟨#[]⟩))),oo 6 (.mv (cq false))] [4,5,6] .ret)))
def an_z7fbg : Ann := ann (List.range 5) ac_z7fbg
theorem ok_z7fbg : okd Tryz.prog an_z7fbg ac_z7fbg Tryz.f164 := ⟨by kernel_rfl, by kernel_rfl⟩


def ac_zvzmk : AC := (sr [oo 4 (.mv (cq false))] [0,1] (.seq (sr [mq 6 0,oo 7 (.len (tp 6) false),mq 8 1,oo 9 (.len (tp 8) false),oo 10 (.bin .neq (tp 7) (tp 9))] [0,1,10] (.cond (tp 10) (sr [oo 4 (.mv (cq false))] [4] .ret) .skip)) (.seq (sr [oo 5 (.mv (ci 0))] [0,1,5] (.block 0 (.loop (.seq (sr [mq 11 5,mq 12 0,oo 13 (.len (tp 12) false),oo 14 (.bin .lss (tp 11) (tp 13))] [0,1,5,14] (.cond (tp 14) .skip (.exit 0))) (.seq (.block 1 (.seq (.draw [mq 17 0,mq 18 5,oo 19 (.idxA 3 (tp 17) (tp 18)),oo 20 (.load (some 3) (tp 19)),mq 21 1,mq 22 5,oo 23 (.idxA 3 (tp 21) (tp 22)),oo 24 (.load (some 3) (tp 23)),oo 25 (.eqs true [.int,.str,.str] (tp 20) (tp 24))] [0,0,3,7,0,0,48,112,255] (.take 0 (.take 1 (.take 2 (.take 3 (.take 4 (.take 5 (.take 6 (.take 7 (.take 8 .done))))))))) (some [0,1,5,25])) (.cond (tp 25) (sr [oo 4 (.mv (cq false))] [4] .ret) .skip))) (.region [mq 15 5,oo 16 (.bin .add (tp 15) (ci 1)),mq 5 16] (some [0,1,5]))))))) (sr [oo 4 (.mv (cq true))] [4] .ret))))
def an_zvzmk : Ann := ann [0,1,2,3,4,6,7,5,8] ac_zvzmk
theorem ok_zvzmk : okd Tryz.prog an_zvzmk ac_zvzmk Tryz.f16 := ⟨by kernel_rfl, by kernel_rfl⟩

def ac_z5bvg : AC := (sr [oo 2 (.alloc 23 [.pd (.raw (.int .i64 0)),.pd (.raw (.string ⟨#[]⟩)),.pd (.raw (.string ⟨#[]⟩))]),oo 3 (.mv (cq false))] [0,2] (.seq (sr [mq 8 0,oo 9 (.len (tp 8) true),oo 10 (.bin .lss (tp 9) (ci 2)),mq 11 10,og 11 false 12 (.mv (tp 0)),og 11 false 13 (.idxS (tp 12) (ci 1)),og 11 false 14 (.bin .neq (tp 13) (.const (.int .u8 32))),oo 15 (.pick (tp 11) (cq true) (tp 14))] [0,2,15] (.cond (tp 15) (sr [oo 16 (.build [.pd (.raw (.int .i64 0)),.pd (.raw (.string ⟨#[]⟩)),.pd (.raw (.string ⟨#[]⟩))] []),.mk none none (.store 3 (tp 2) (tp 16)),oo 3 (.mv (cq false))] [2,3] .ret) .skip)) (sr [mq 18 0,oo 19 (.slcS (tp 18) (some (ci 2)) none),oo 20 (.call 69 [tp 19]),mq 17 20,oo 21 (.extract (tp 17) 0),oo 22 (.extract (tp 17) 1),oo 23 (.extract (tp 17) 2),mq 4 21,mq 5 22,mq 6 23] [0,2,4,5,6] (sr [mq 24 0,oo 25 (.idxS (tp 24) (ci 0)),oo 26 (.conv .i64 (tp 25)),oo 27 (.bin .sub (tp 26) (ci 48)),mq 28 4,mq 29 5,oo 30 (.build [.pd (.raw (.int .i64 0)),.pd (.raw (.string ⟨#[]⟩)),.pd (.raw (.string ⟨#[]⟩))] [(0,1,tp 27),(1,1,tp 28),(2,1,tp 29)]),oo 7 (.alloc 23 [.pd (.raw (.int .i64 0)),.pd (.raw (.string ⟨#[]⟩)),.pd (.raw (.string ⟨#[]⟩))]),.mk none none (.store 3 (tp 7) (tp 30))] [2,6,7] (.seq (sr [mq 31 6,oo 32 (.un .not (tp 31)),mq 33 32,og 33 false 34 (.load (some 3) (tp 7)),og 33 false 35 (.call 26 [tp 34]),og 33 false 36 (.un .not (tp 35)),oo 37 (.pick (tp 33) (cq true) (tp 36))] [2,7,37] (.cond (tp 37) (sr [oo 38 (.build [.pd (.raw (.int .i64 0)),.pd (.raw (.string ⟨#[]⟩)),.pd (.raw (.string ⟨#[]⟩))] []),.mk none none (.store 3 (tp 2) (tp 38)),oo 3 (.mv (cq false))] [2,3] .ret) .skip)) (sr [oo 39 (.load (some 3) (tp 7)),.mk none none (.store 3 (tp 2) (tp 39)),oo 3 (.mv (cq true))] [2,3] .ret))))))
def an_z5bvg : Ann := ann (List.range 8) ac_z5bvg
theorem ok_z5bvg : okd Tryz.prog an_z5bvg ac_z5bvg Tryz.f24 := ⟨by kernel_rfl, by kernel_rfl⟩

def ac_zvuu8 : AC := (sr [oo 1 (.box 23 (tp 0)),oo 2 (.mv (cq false))] [1] (.seq (sr [fi 3 0 1,lq 4 3,oo 5 (.bin .lss (tp 4) (ci 1)),mq 6 5,og 6 false 7 (.fieldA 0 (tp 1)),og 6 false 8 (.load none (tp 7)),og 6 false 9 (.bin .gtr (tp 8) (ci 7)),oo 10 (.pick (tp 6) (cq true) (tp 9))] [1,10] (.cond (tp 10) (sr [oo 2 (.mv (cq false))] [2] .ret) .skip)) (.seq (sr [fi 11 0 1,lq 12 11,oo 13 (.bin .lss (tp 12) (ci 3))] [1,13] (.cond (tp 13) (sr [fi 14 1 1,lq 15 14,oo 16 (.bin .eql (tp 15) (.const (.string ⟨#[]⟩))),mq 17 16,og 17 true 18 (.fieldA 0 (tp 1)),og 17 true 19 (.load none (tp 18)),og 17 true 20 (.bin .eql (tp 19) (ci 1)),og 17 true 21 (.mv (tp 20)),og 21 true 22 (.fieldA 2 (tp 1)),og 21 true 23 (.load none (tp 22)),og 21 true 24 (.call 73 [tp 23]),og 17 true 25 (.pick (tp 21) (tp 24) (cq false)),og 17 true 26 (.mv (tp 25)),og 26 false 27 (.fieldA 0 (tp 1)),og 26 false 28 (.load none (tp 27)),og 26 false 29 (.bin .eql (tp 28) (ci 2)),og 26 false 30 (.mv (tp 29)),og 30 true 31 (.fieldA 2 (tp 1)),og 30 true 32 (.load none (tp 31)),og 30 true 33 (.call 74 [tp 32]),og 26 false 34 (.pick (tp 30) (tp 33) (cq false)),og 17 true 35 (.pick (tp 26) (cq true) (tp 34)),oo 36 (.pick (tp 17) (tp 35) (cq false)),mq 2 36] [2] .ret) .skip)) (sr [fi 37 1 1,lq 38 37,oo 39 (.call 74 [tp 38]),mq 40 39,og 40 true 41 (.fieldA 2 (tp 1)),og 40 true 42 (.load none (tp 41)),og 40 true 43 (.call 73 [tp 42]),oo 44 (.pick (tp 40) (tp 43) (cq false)),mq 2 44] [2] .ret))))
def an_zvuu8 : Ann := ann (List.range 6) ac_zvuu8
theorem ok_zvuu8 : okd Tryz.prog an_zvuu8 ac_zvuu8 Tryz.f26 := ⟨by kernel_rfl, by kernel_rfl⟩

def ac_z2cvg : AC := (sr [oo 2 (.box 23 (tp 0)),oo 3 (.box 23 (tp 1)),oo 4 (.mv (ci 0))] [2,3] (.seq (sr [oo 6 (.load (some 3) (tp 2)),oo 7 (.load (some 3) (tp 3)),oo 8 (.eqs false [.int,.str,.str] (tp 6) (tp 7))] [2,3,8] (.cond (tp 8) (sr [oo 4 (.mv (ci 0))] [4] .ret) .skip)) (sr [fi 9 2 2,lq 10 9,fi 11 2 3,lq 12 11,oo 13 (.bin .lss (tp 10) (tp 12)),mq 5 13] [2,3,5] (.seq (sr [fi 14 1 2,lq 15 14,fi 16 1 3,lq 17 16,oo 18 (.bin .neq (tp 15) (tp 17))] [2,3,5,18] (.cond (tp 18) (.region [fi 19 1 2,lq 20 19,fi 21 1 3,lq 22 21,oo 23 (.bin .lss (tp 20) (tp 22)),mq 5 23] (some [2,3,5])) .skip)) (.seq (sr [fi 24 0 2,lq 25 24,fi 26 0 3,lq 27 26,oo 28 (.bin .neq (tp 25) (tp 27))] [2,3,5,28] (.cond (tp 28) (.region [fi 29 0 2,lq 30 29,fi 31 0 3,lq 32 31,oo 33 (.bin .lss (tp 30) (tp 32)),mq 5 33] (some [5])) .skip)) (.seq (sr [mq 34 5] [34] (.cond (tp 34) (sr [oo 4 (.mv (ci (-1)))] [4] .ret) .skip)) (sr [oo 4 (.mv (ci 1))] [4] .ret)))))))
def an_z2cvg : Ann := ann (List.range 11) ac_z2cvg
theorem ok_z2cvg : okd Tryz.prog an_z2cvg ac_z2cvg Tryz.f27 := ⟨by kernel_rfl, by kernel_rfl⟩

def ac_zauke : AC := (sr [oo 1 (.box 23 (tp 0)),oo 2 (.mv (.const (.string ⟨#[]⟩)))] [1] (sr [fi 3 0 1,lq 4 3,oo 5 (.bin .add (ci 48) (tp 4)),oo 6 (.conv .u8 (tp 5)),oo 7 (.bslice 5 1 [tp 6]),oo 8 (.bstr (tp 7)),oo 9 (.bin .add (tp 8) (.const (.string ⟨#[32]⟩))),fi 10 1 1,lq 11 10,oo 12 (.bin .add (tp 9) (tp 11)),oo 13 (.bin .add (tp 12) (.const (.string ⟨#[47]⟩))),fi 14 2 1,lq 15 14,oo 16 (.bin .add (tp 13) (tp 15)),mq 2 16] [2] .ret))
def an_zauke : Ann := ann (List.range 2) ac_zauke
theorem ok_zauke : okd Tryz.prog an_zauke ac_zauke Tryz.f28 := ⟨by kernel_rfl, by kernel_rfl⟩

def ac_zmbbv : AC := (sr [oo 2 (.mv (.const (.string ⟨#[]⟩))),oo 3 (.mv (.const (.string ⟨#[]⟩))),oo 4 (.mv (cq false))] [0] (sr [mq 6 0,oo 7 (.call 117 [tp 6,.const (.int .u8 47)]),mq 5 7] [5] (.seq (sr [mq 8 5,oo 9 (.len (tp 8) false),oo 10 (.bin .neq (tp 9) (ci 2)),mq 11 10,og 11 false 12 (.mv (tp 5)),og 11 false 13 (.idxA 1 (tp 12) (ci 0)),og 11 false 14 (.load none (tp 13)),og 11 false 15 (.bin .neq (tp 14) (.const (.string ⟨#[]⟩))),og 11 false 16 (.mv (tp 15)),og 16 true 17 (.mv (tp 5)),og 16 true 18 (.idxA 1 (tp 17) (ci 0)),og 16 true 19 (.load none (tp 18)),og 16 true 20 (.call 74 [tp 19]),og 16 true 21 (.un .not (tp 20)),og 11 false 22 (.pick (tp 16) (tp 21) (cq false)),oo 23 (.pick (tp 11) (cq true) (tp 22)),mq 24 23,og 24 false 25 (.mv (tp 5)),og 24 false 26 (.idxA 1 (tp 25) (ci 1)),og 24 false 27 (.load none (tp 26)),og 24 false 28 (.call 73 [tp 27]),og 24 false 29 (.un .not (tp 28)),oo 30 (.pick (tp 24) (cq true) (tp 29))] [5,30] (.cond (tp 30) (sr [oo 2 (.mv (.const (.string ⟨#[]⟩))),oo 3 (.mv (.const (.string ⟨#[]⟩))),oo 4 (.mv (cq false))] [2,3,4] .ret) .skip)) (.seq (.draw [mq 31 5,oo 32 (.idxA 1 (tp 31) (ci 0)),lq 33 32,mq 34 5,oo 35 (.idxA 1 (tp 34) (ci 1)),lq 36 35,mq 2 33,mq 3 36,oo 4 (.mv (cq true))] [0,1,3,0,8,24,7,127,255] (.take 0 (.take 1 (.take 2 (.take 3 (.take 4 (.take 5 (.take 6 (.take 7 (.take 8 .done))))))))) (some [2,3,4])) .ret))))
def an_zmbbv : Ann := ann (List.range 5) ac_zmbbv
theorem ok_zmbbv : okd Tryz.prog an_zmbbv ac_zmbbv Tryz.f69 := ⟨by kernel_rfl, by kernel_rfl⟩

def ac_zvp8y : AC := (sr [oo 2 (.mv (cq false))] [0] (.seq (sr [mq 5 0,oo 6 (.len (tp 5) true),oo 7 (.bin .gtr (tp 6) (ci 60))] [0,7] (.cond (tp 7) (sr [oo 2 (.mv (cq false))] [2] .ret) .skip)) (sr [mq 8 0,oo 9 (.call 117 [tp 8,.const (.int .u8 46)]),mq 3 9] [3] (.seq (sr [oo 4 (.mv (ci 0))] [3,4] (.block 0 (.loop (.seq (sr [mq 10 4,mq 11 3,oo 12 (.len (tp 11) false),oo 13 (.bin .lss (tp 10) (tp 12))] [3,4,13] (.cond (tp 13) .skip (.exit 0))) (.seq (.block 1 (sr [mq 16 3,mq 17 4,oo 18 (.idxA 1 (tp 16) (tp 17)),lq 19 18,oo 20 (.call 74 [tp 19]),oo 21 (.un .not (tp 20))] [3,4,21] (.cond (tp 21) (sr [oo 2 (.mv (cq false))] [2] .ret) .skip))) (.region [mq 14 4,oo 15 (.bin .add (tp 14) (ci 1)),mq 4 15] (some [3,4]))))))) (sr [oo 2 (.mv (cq true))] [2] .ret)))))
def an_zvp8y : Ann := ann [0,1,2,3,4,5,7,8,6,9] ac_zvp8y
theorem ok_zvp8y : okd Tryz.prog an_zvp8y ac_zvp8y Tryz.f73 := ⟨by kernel_rfl, by kernel_rfl⟩

def ac_z4drv : AC := (sr [oo 2 (.mv (cq false))] [0] (.seq (sr [oo 3 (.mv (ci 0))] [0,3] (.block 0 (.loop (.seq (sr [mq 6 3,mq 7 0,oo 8 (.len (tp 7) true),oo 9 (.bin .lss (tp 6) (tp 8))] [0,3,9] (.cond (tp 9) .skip (.exit 0))) (.seq (.block 1 (sr [mq 12 0,mq 13 3,oo 14 (.idxS (tp 12) (tp 13)),mq 4 14] [0,3,4] (sr [mq 15 3,oo 16 (.bin .eql (tp 15) (ci 0)),mq 17 16,og 17 false 18 (.mv (tp 3)),og 17 false 19 (.mv (tp 0)),og 17 false 20 (.len (tp 19) true),og 17 false 21 (.bin .sub (tp 20) (ci 1)),og 17 false 22 (.bin .eql (tp 18) (tp 21)),oo 23 (.pick (tp 17) (cq true) (tp 22)),mq 5 23] [0,3,4,5] (sr [mq 24 4,oo 25 (.bin .leq (.const (.int .u8 97)) (tp 24)),mq 26 25,og 26 true 27 (.mv (tp 4)),og 26 true 28 (.bin .leq (tp 27) (.const (.int .u8 122))),oo 29 (.pick (tp 26) (tp 28) (cq false)),mq 30 29,og 30 false 31 (.mv (tp 4)),og 30 false 32 (.bin .leq (.const (.int .u8 48)) (tp 31)),og 30 false 33 (.mv (tp 32)),og 33 true 34 (.mv (tp 4)),og 33 true 35 (.bin .leq (tp 34) (.const (.int .u8 57))),og 30 false 36 (.pick (tp 33) (tp 35) (cq false)),oo 37 (.pick (tp 30) (cq true) (tp 36)),mq 38 37,og 38 false 39 (.mv (tp 4)),og 38 false 40 (.bin .eql (tp 39) (.const (.int .u8 45))),og 38 false 41 (.mv (tp 40)),og 41 true 42 (.mv (tp 5)),og 41 true 43 (.un .not (tp 42)),og 38 false 44 (.pick (tp 41) (tp 43) (cq false)),oo 45 (.pick (tp 38) (cq true) (tp 44)),oo 46 (.un .not (tp 45))] [0,3,46] (.cond (tp 46) (sr [oo 2 (.mv (cq false))] [2] .ret) .skip))))) (.region [mq 10 3,oo 11 (.bin .add (tp 10) (ci 1)),mq 3 11] (some [0,3]))))))) (sr [mq 47 0,oo 48 (.len (tp 47) true),oo 49 (.bin .leq (ci 1) (tp 48)),mq 50 49,og 50 true 51 (.mv (tp 0)),og 50 true 52 (.len (tp 51) true),og 50 true 53 (.bin .leq (tp 52) (ci 20)),oo 54 (.pick (tp 50) (tp 53) (cq false)),mq 2 54] [2] .ret)))
def an_z4drv : Ann := ann [0,1,2,4,5,6,7,3,8] ac_z4drv
theorem ok_z4drv : okd Tryz.prog an_z4drv ac_z4drv Tryz.f74 := ⟨by kernel_rfl, by kernel_rfl⟩

def ac_zwnk2 : AC := (sr [oo 4 (.mv (.const (.slice none 0 0)))] [0,1] (sr [oo 7 (.bslice 9 1 [.const (.string ⟨#[]⟩)]),mq 5 7] [0,1,5] (.seq (sr [oo 6 (.mv (ci 0))] [0,1,5,6] (.block 0 (.loop (.seq (sr [mq 8 6,mq 9 0,oo 10 (.len (tp 9) true),oo 11 (.bin .lss (tp 8) (tp 10))] [0,1,5,6,11] (.cond (tp 11) .skip (.exit 0))) (.seq (.block 1 (sr [mq 14 0,mq 15 6,oo 16 (.idxS (tp 14) (tp 15)),mq 17 1,oo 18 (.bin .eql (tp 16) (tp 17))] [0,1,5,6,18] (.cond (tp 18) (.region [mq 19 5,oo 20 (.bslice 9 1 [.const (.string ⟨#[]⟩)]),oo 21 (.append 9 1 16 (tp 19) (tp 20)),mq 5 21] (some [0,1,5,6])) (.draw [mq 22 5,mq 23 5,oo 24 (.len (tp 23) false),oo 25 (.bin .sub (tp 24) (ci 1)),oo 26 (.idxA 1 (tp 22) (tp 25)),lq 27 26,mq 28 0,mq 29 6,mq 30 6,oo 31 (.bin .add (tp 30) (ci 1)),oo 32 (.slcS (tp 28) (some (tp 29)) (some (tp 31))),oo 33 (.bin .add (tp 27) (tp 32)),oo 34 (.idxA 1 (tp 22) (tp 25)),.mk none none (.store 1 (tp 34) (tp 33))] [0,0,2,6,15,31,0,0,0,256,960,2047,4095,8191] (.take 0 (.take 1 (.take 2 (.take 3 (.take 4 (.take 5 (.take 6 (.take 7 (.take 8 (.take 9 (.take 10 (.take 11 (.take 12 (.alts (.cons 13 true .done .nil))))))))))))))) (some [0,1,5,6]))))) (.region [mq 12 6,oo 13 (.bin .add (tp 12) (ci 1)),mq 6 13] (some [0,1,5,6]))))))) (sr [mq 35 5,mq 4 35] [4] .ret))))
def an_zwnk2 : Ann := ann [0,1,2,3,5,4,7,6,8] ac_zwnk2
theorem ok_zwnk2 : okd Tryz.prog an_zwnk2 ac_zwnk2 Tryz.f117 := ⟨by kernel_rfl, by kernel_rfl⟩

end Go.Proofs.YtbjaopoipkphnaaGreatDoor


namespace Go.Proofs.YtbjaopoipkphnaaGreatDoor
open Go Go.RowKit
set_option linter.unusedSimpArgs false
set_option linter.unusedVariables false
set_option maxRecDepth 100000

inductive Sh where
 | int (k : IntKind)
 | str
 | bool
 | slice (s : List Sh)

mutual
inductive HasSh : Sh → PD → Prop
 | int (k : IntKind) (n : Int) (h : (Lit.int k n).wf = true) : HasSh (.int k) (.raw (.int k n))
 | str (s : ByteArray) (h : s.size ≤ maxLen) : HasSh .str (.raw (.string s))
 | bool (b : Bool) : HasSh .bool (.raw (.bool b))
 | slice (s : List Sh) (els : List (List PD)) (hm : els.length ≤ maxLen) (h : ∀ r ∈ els, HasShs s r) : HasSh (.slice s) (.slice els)
inductive HasShs : List Sh → List PD → Prop
 | nil : HasShs [] []
 | cons (s : Sh) (d : PD) (ss : List Sh) (ds : List PD) (h : HasSh s d) (hs : HasShs ss ds) : HasShs (s :: ss) (d :: ds)
end

theorem HasShs.append : ∀ {s1 s2 : List Sh} {d1 d2 : List PD}, HasShs s1 d1 → HasShs s2 d2 → HasShs (s1 ++ s2) (d1 ++ d2)
 | [], _, _, _, h, k => by cases h; exact k
 | _ :: _, _, _, _, h, k => by
   cases h with
   | cons s d ss ds h hs => exact .cons _ _ _ _ h (hs.append k)

mutual
def shp (P : Program) : Nat → TypeId → Option (List Sh)
 | 0, _ => none
 | n + 1, t => match P.underlying t with
   | some (.int k) => some [.int k]
   | some .string => some [.str]
   | some .bool => some [.bool]
   | some (.slice e) => match shp P n e with
     | some s => if P.cellsOf e = s.length ∧ 0 < s.length then some [.slice s] else none
     | none => none
   | some (.struct fs) => match shpF P n fs.toList 0 with
     | some s => if s.length = P.cellsOf t then some s else none
     | none => none
   | _ => none
def shpF (P : Program) : Nat → List Field → Nat → Option (List Sh)
 | _, [], _ => some []
 | 0, _ :: _, _ => none
 | n + 1, f :: fs, off => if f.offset ≠ off then none else match shp P n f.type with
   | some s => if P.cellsOf f.type = s.length then (shpF P n fs (off + s.length)).map (s ++ ·) else none
   | none => none
end

theorem list_of {α : Type} [Inhabited α] {Q : Nat → α → Prop} : ∀ (n : Nat), (∀ j, j < n → ∃ d, Q j d) → ∃ l : List α, l.length = n ∧ ∀ j, j < n → Q j (l.getD j default)
 | 0, _ => ⟨[], rfl, fun j hj => by omega⟩
 | n + 1, h => by
   obtain ⟨l, h1, h2⟩ := list_of n (fun j hj => h j (by omega))
   obtain ⟨d, hd⟩ := h n (by omega)
   refine ⟨l ++ [d], by simp [h1], fun j hj => ?_⟩
   by_cases hjn : j < n
   ·have := h2 j hjn
    rw [List.getD_eq_getElem?_getD, List.getElem?_append_left (by omega), ← List.getD_eq_getElem?_getD]
    exact this
   ·have e : j = n := by omega
    subst e
    rw [List.getD_eq_getElem?_getD, List.getElem?_append_right (by omega), h1, Nat.sub_self]
    exact hd

section
variable {H : Type} {enc : TypeId × Value → H} {P : Program} {w : World} {spare : Nat → Bool} {held : Bool} {Fz : Nat → Nat → Prop}

theorem readF (hF : ∀ b o v, w.cell? ⟨b, o, none⟩ = some v → Fz b o) (n0 : Nat) (ih : ∀ n, n ≤ n0 → ∀ (t : TypeId) (s : List Sh) (fuel : Nat) (cs : List Value) (x : DataW H × List MemPlace), shp P n t = some s → DataW.trod enc P w 0 spare held fuel t cs = some x → ∃ ds, PReps Fz w cs ds ∧ HasShs s ds) (cs : List Value) :
 ∀ (n : Nat), n ≤ n0 + 1 → ∀ (fs : List Field) (off : Nat) (s : List Sh), shpF P n fs off = some s →
   (∀ f ∈ fs, ∃ fuel x, DataW.trod enc P w 0 spare held fuel f.type ((cs.drop f.offset).take (P.cellsOf f.type)) = some x) → off + s.length ≤ cs.length →
   ∃ ds, PReps Fz w ((cs.drop off).take s.length) ds ∧ HasShs s ds
 | _, _, [], off, s, h, _, _ => by
   have : s = [] := by
    unfold shpF at h
    simpa using h.symm
   subst this
   exact ⟨[], by simpa using PReps.nil, .nil⟩
 | 0, _, f :: fs, off, s, h, _, _ => by unfold shpF at h; cases h
 | n + 1, hn, f :: fs, off, s, h, hf, hl => by
   unfold shpF at h
   split at h
   ·cases h
   ·rename_i ho
    simp only [ne_eq, Decidable.not_not] at ho
    split at h
    ·rename_i s1 h1
     split at h
     ·rename_i hc
      obtain ⟨s2, h2, rfl⟩ := Option.map_eq_some_iff.1 h
      obtain ⟨fuel, x, hx⟩ := hf f List.mem_cons_self
      rw [ho, hc] at hx
      obtain ⟨d1, p1, q1⟩ := ih n (by omega) f.type s1 fuel _ x h1 hx
      rw [List.length_append] at hl
      obtain ⟨d2, p2, q2⟩ := readF hF n0 ih cs n (by omega) fs (off + s1.length) s2 h2 (fun g hg => hf g (List.mem_cons_of_mem _ hg)) (by omega)
      refine ⟨d1 ++ d2, ?_, q1.append q2⟩
      have e : (cs.drop off).take (s1 ++ s2).length = (cs.drop off).take s1.length ++ (cs.drop (off + s1.length)).take s2.length := by
       rw [List.length_append, List.take_add, List.drop_drop]
      rw [e]
      exact p1.append p2
     ·cases h
    ·cases h

theorem read (hF : ∀ b o v, w.cell? ⟨b, o, none⟩ = some v → Fz b o) : ∀ (n0 n : Nat), n ≤ n0 → ∀ (t : TypeId) (s : List Sh) (fuel : Nat) (cs : List Value) (x : DataW H × List MemPlace), shp P n t = some s → DataW.trod enc P w 0 spare held fuel t cs = some x → ∃ ds, PReps Fz w cs ds ∧ HasShs s ds
 | 0, n, hn, t, s, fuel, cs, x, h, hx => by
   have : n = 0 := by omega
   subst this
   unfold shp at h
   cases h
 | n0 + 1, 0, hn, t, s, fuel, cs, x, h, hx => by unfold shp at h; cases h
 | n0 + 1, n + 1, hn, t, s, fuel, cs, x, h, hx => by
   have ih := read hF n0
   unfold shp at h
   split at h
   ·rename_i k hu
    cases h
    obtain ⟨m, rfl, _, hw⟩ := DataW.trod_int hu hx
    exact ⟨[.raw (.int k m)], .cons _ _ _ _ (.raw _ rfl) .nil, .cons _ _ _ _ (.int k m hw) .nil⟩
   ·rename_i hu
    cases h
    obtain ⟨m, rfl, _, hw⟩ := DataW.trod_string hu hx
    exact ⟨[.raw (.string m)], .cons _ _ _ _ (.raw _ rfl) .nil, .cons _ _ _ _ (.str m hw) .nil⟩
   ·rename_i hu
    cases h
    obtain ⟨m, rfl, _⟩ := DataW.trod_bool hu hx
    exact ⟨[.raw (.bool m)], .cons _ _ _ _ (.raw _ rfl) .nil, .cons _ _ _ _ (.bool m) .nil⟩
   ·rename_i e hu
    split at h
    ·rename_i s1 h1
     split at h
     ·rename_i hc
      cases h
      rcases DataW.trod_slice hu hx with ⟨rfl, _⟩ | ⟨a, len, cap, elems, rest, m, _, rfl, _, _, hl, hm, hlen, hel, _, _⟩
      ·exact ⟨[.slice []], .cons _ _ _ _ (.empty _ _) .nil, .cons _ _ _ _ (.slice _ _ (by simp) (by simp)) .nil⟩
      ·have each : ∀ j, j < len → ∃ d, PReps Fz w ((w.cells? 0 (a.add (j * P.cellsOf e)) (P.cellsOf e)).getD []) d ∧ HasShs s1 d := by
        intro j hj
        have hj' := hel j hj
        rw [List.getElem?_eq_getElem (by omega)] at hj'
        obtain ⟨cj, e1, e2⟩ := Option.bind_eq_some_iff.1 hj'
        rw [e1]
        exact ih n (by omega) e s1 m cj _ h1 e2
       obtain ⟨els, hels, hall⟩ := list_of len each
       rcases Nat.eq_zero_or_pos len with h0 | hpos
       ·subst h0
        have : els = [] := List.eq_nil_of_length_eq_zero hels
        subst this
        exact ⟨[.slice []], .cons _ _ _ _ (.empty _ _) .nil, .cons _ _ _ _ (.slice _ _ (by simp) (by simp)) .nil⟩
       ·have hcell : ∀ j i u, j < len → ((w.cells? 0 (a.add (j * P.cellsOf e)) (P.cellsOf e)).getD [])[i]? = some u → w.cell? ((a.add (j * P.cellsOf e)).add i) = some u := by
         intro j i u hj hu'
         have hj' := hel j hj
         rw [List.getElem?_eq_getElem (by omega)] at hj'
         obtain ⟨cj, e1, e2⟩ := Option.bind_eq_some_iff.1 hj'
         rw [e1] at hu'
         simp only [Option.getD_some] at hu'
         unfold World.cells? at e1
         simp only [Nat.zero_le, if_true] at e1
         have hi : i < P.cellsOf e := by
          have h3 := (List.getElem?_eq_some_iff.1 hu').1
          have h4 := mapM_some_length e1
          simp at h4
          omega
         have := mapM_some_get e1 i i (by simp [hi])
         rw [hu'] at this
         exact this
        have hvl : ∀ j, j < len → ((w.cells? 0 (a.add (j * P.cellsOf e)) (P.cellsOf e)).getD []).length = P.cellsOf e := by
         intro j hj
         have hj' := hel j hj
         rw [List.getElem?_eq_getElem (by omega)] at hj'
         obtain ⟨cj, e1, e2⟩ := Option.bind_eq_some_iff.1 hj'
         rw [e1]
         simp only [Option.getD_some]
         unfold World.cells? at e1
         simp only [Nat.zero_le, if_true] at e1
         have h4 := mapM_some_length e1
         simpa using h4
        have hspot : ∃ b off, a = ⟨b, off, none⟩ := by
         have h1 := hvl 0 hpos
         have h2 := hcell 0 0 _ hpos (List.getElem?_eq_getElem (by omega))
         simp only [Nat.zero_mul, Addr.add, if_true] at h2
         unfold World.cell? at h2
         split at h2
         ·split at h2
          ·cases h2
          ·rename_i hs
           obtain ⟨b, off, sp⟩ := a
           simp only [Option.not_isSome_iff_eq_none] at hs
           subst hs
           exact ⟨b, off, rfl⟩
         ·cases h2
        obtain ⟨b, off, rfl⟩ := hspot
        refine ⟨[.slice els], .cons _ _ _ _ (.slice b off len cap (P.cellsOf e) els (fun j => (w.cells? 0 ((⟨b, off, none⟩ : Addr).add (j * P.cellsOf e)) (P.cellsOf e)).getD []) hels hpos hl (by omega) hvl (fun j i u hj hu' => ?_) (fun j hj => ?_)) .nil, .cons _ _ _ _ (.slice _ _ (by omega) (fun r hr => ?_)) .nil⟩
        ·have h5 := hcell j i u hj hu'
         rw [Addr.add_mid, Addr.add_mid] at h5
         exact ⟨h5, hF _ _ _ h5⟩
        ·exact (hall j hj).1
        ·obtain ⟨j, hj, rfl⟩ := List.getElem_of_mem hr
         have := (hall j (by omega)).2
         rwa [List.getD_eq_getElem?_getD, List.getElem?_eq_getElem hj] at this
     ·cases h
    ·cases h
   ·rename_i fs hu
    split at h
    ·rename_i s1 h1
     split at h
     ·rename_i hc
      cases h
      obtain ⟨xs, m, _, _, hl, hxl, hall⟩ := DataW.trod_struct hu hx
      obtain ⟨ds, h2, h3⟩ := readF hF n0 ih cs n (by omega) fs.toList 0 s h1 (fun f hf => by
       obtain ⟨i, hi, rfl⟩ := List.getElem_of_mem hf
       have h4 := hall i _ (by rw [← Array.getElem?_toList]; exact List.getElem?_eq_getElem hi)
       rw [List.getElem?_eq_getElem (by rw [hxl]; simpa using hi)] at h4
       exact ⟨m, _, h4⟩) (by omega)
      refine ⟨ds, ?_, h3⟩
      rw [List.drop_zero, List.take_of_length_le (by omega)] at h2
      exact h2
     ·cases h
    ·cases h
   ·cases h
end

end Go.Proofs.YtbjaopoipkphnaaGreatDoor



namespace Go.Proofs.YtbjaopoipkphnaaGreatDoor
open Go Go.RowKit Go.ChangeShapes Go.WideShapes Go.ChangeAt Go.WideMaps Go.WideElems
set_option linter.unusedSimpArgs false
set_option linter.unusedVariables false
set_option maxRecDepth 100000

theorem own_ : ownKnob Tryz.prog.godebug = none := by kernel_rfl
theorem laidOut_ : laidOutB Tryz.prog = true := by kernel_rfl

abbrev allFz (W : World) : Nat → Nat → Prop := fun b _ => b < W.heap.size

theorem allFz_cell {W : World} (b o : Nat) (v : Value) (h : W.cell? ⟨b, o, none⟩ = some v) : allFz W b o := by
 unfold World.cell? at h
 split at h
 ·rename_i hh; exact (Array.getElem?_eq_some_iff.1 hh).1
 ·cases h

section
variable {H : Type} {enc : TypeId × Value → H} {P : Program} {W : World} {base : Nat} {spare : Nat → Bool} {held : Bool}

theorem law_true {f : FuncId} {args : List D} {vs : List Value} (hp : Pure P f args (fun d => d = bln true)) (hr : Reps (gh0 (allFz W)) W args vs) :
 Calls P f vs.toArray W fun e w' => e = .returned (.bool true) ∧ Below W.heap.size W w' :=
 (hp (allFz W) W vs (fun _ _ h => h) hr).mono fun e w' ⟨v, d, Fz', h1, h2, _, h4, _, _, _, h8⟩ => by
  subst h2
  refine ⟨?_, h4⟩
  rw [h1]
  have := raw_inv h8
  rw [this]
end


section
variable {H : Type} {enc : TypeId × Value → H} {P : Program} {W : World} {base : Nat} {spare : Nat → Bool} {held : Bool}

theorem arg_struct {t : TypeId} {fs : Array Field} {v : Value} {d : DataW H} {ps : List MemPlace} {n : Nat} {s : List Sh} (hu : P.underlying t = some (.struct fs)) (hv : Value.okWide P W .any base t v) (h : DataW.Trod enc P W 0 spare held t v d ps)
 (hs : shp P n t = some s) : ∃ ds, Rep (gh0 (allFz W)) W (.agg (ds.map D.pd)) v ∧ HasShs s ds := by
 obtain ⟨cs, rfl, hsz⟩ := okWide_struct hu hv
 obtain ⟨fuel, hf⟩ := h
 obtain ⟨ds, h1, h2⟩ := read (Fz := allFz W) allFz_cell n n (Nat.le_refl _) t _ fuel _ _ hs hf
 have hl : cs.toList.length = P.cellsOf t := by simpa using hsz
 refine ⟨ds, ?_, h2⟩
 simp only [Rep]
 exact ⟨cs.toList, by simp, Reps.of_pd (g := gh0 (allFz W)) h1⟩

end


abbrev refShs : List Sh := [.int .i64, .str, .str]

theorem ref_row {r : List PD} (h : HasShs refShs r) : ∃ a, r = ARef.pd a := by
 cases h with
 | cons _ d1 _ _ a1 h1 =>
 cases h1 with
 | cons _ d2 _ _ a2 h2 =>
 cases h2 with
 | cons _ d3 _ _ a3 h3 =>
 cases h3
 cases a1 with
 | int _ x1 _ =>
 cases a2 with
 | str x2 _ =>
 cases a3 with
 | str x3 _ =>
 exact ⟨⟨x1, x2, x3⟩, rfl⟩

section
variable {H : Type} {enc : TypeId × Value → H} {P : Program} {W : World} {base : Nat} {spare : Nat → Bool} {held : Bool}

theorem arg_ref {t : TypeId} {fs : Array Field} {v : Value} {d : DataW H} {ps : List MemPlace} {n : Nat} (hu : P.underlying t = some (.struct fs)) (hv : Value.okWide P W .any base t v) (h : DataW.Trod enc P W 0 spare held t v d ps)
 (hs : shp P n t = some refShs) : ∃ o : ARef, Rep (gh0 (allFz W)) W o.d v := by
 obtain ⟨ds, h1, h2⟩ := arg_struct hu hv h hs
 obtain ⟨o, rfl⟩ := ref_row h2
 exact ⟨o, h1⟩

end

end Go.Proofs.YtbjaopoipkphnaaGreatDoor



namespace Go.Proofs.YtbjaopoipkphnaaGreatDoor
open Go Go.RowKit
set_option linter.unusedSimpArgs false
set_option linter.unusedVariables false
set_option maxRecDepth 100000

def updR (t : Nat) (e : TypeId) (sz : Nat) (row : List (List PD)) : D → D
 | .pd (.raw v) => .pd (.raw v)
 | .nils => .nils
 | .ptr n o => .ptr n o
 | .own _ _ _ s => if s = t then .own e sz row t else .any
 | _ => .any

def updG (t : Nat) (e : TypeId) (sz : Nat) (row : List (List PD)) (fr : List (Nat × D)) : List (Nat × D) := fr.map fun p => (p.1, updR t e sz row p.2)
def updB (t : Nat) (e : TypeId) (sz : Nat) (row : List (List PD)) (bs : List (Nat × List D)) : List (Nat × List D) := bs.map fun p => (p.1, p.2.map (updR t e sz row))

variable {C : Ctx} {st : St} {g : Gh} {a : Act} {w w' : World}

theorem updR_rep {t : Nat} {e : TypeId} {sz : Nat} {row : List (List PD)} {V : Value} (htk : g.tk t = some (V, e)) (hrep : PRep g.Fz w' V (.slice row)) (hlens : ∀ r ∈ row, r.length = sz) {d : D} {v : Value} (h : Rep g w d v) : Rep g w' (updR t e sz row d) v := by
 unfold updR
 split
 ·simp only [Rep] at h ⊢
  exact h.flat0
 ·simp only [Rep] at h ⊢
  exact h
 ·simp only [Rep] at h ⊢
  exact h
 ·split
  ·rename_i hst
   subst hst
   simp only [Rep] at h ⊢
   obtain ⟨_, h4, _⟩ := h
   rw [htk] at h4
   have hv : v = V := (congrArg Prod.fst (Option.some.inj h4)).symm
   subst hv
   exact ⟨hrep, htk, hlens⟩
  ·simp only [Rep]
 ·simp only [Rep]

theorem updR_reps {t : Nat} {e : TypeId} {sz : Nat} {row : List (List PD)} {V : Value} (htk : g.tk t = some (V, e)) (hrep : PRep g.Fz w' V (.slice row)) (hlens : ∀ r ∈ row, r.length = sz) : ∀ {ds : List D} {vs : List Value}, Reps g w ds vs → Reps g w' (ds.map (updR t e sz row)) vs
 | [], _, h => by simpa only [Reps, List.map_nil] using h
 | d :: ds, _, h => by
   simp only [Reps] at h
   obtain ⟨v, vs', rfl, hv, hs⟩ := h
   simp only [List.map_cons, Reps]
   exact ⟨v, vs', rfl, updR_rep htk hrep hlens hv, updR_reps htk hrep hlens hs⟩

theorem SR.newrow (hs : SR C st g a w) {t sz : Nat} {e : TypeId} {row : List (List PD)} {b len cap : Nat} (htk : g.tk t = some (.slice (some ⟨b, 0, none⟩) len cap, e)) (hsolo : st.hs = .solo) (hgb : w.grownBy w' (some b))
 {cur cur' : Array Value} (hold : w.heap[b]? = some (.cells cur e (0, 0))) (hnew : w'.heap[b]? = some (.cells cur' e (0, 0))) (hsz : cur'.size = cur.size)
 (hrep : PRep g.Fz w' (.slice (some ⟨b, 0, none⟩) len cap) (.slice row)) (hlens : ∀ r ∈ row, r.length = sz) :
 SR C ⟨updG t e sz row st.fr, updB t e sz row st.bs, [], st.hs⟩ g a w' := by
 have m := hs.mem
 obtain ⟨ie, n, xs, hie, hpos, hown, hfz⟩ := m.tks t _ _ htk
 obtain ⟨hbl, hfo⟩ := hfz b rfl
 have hS := C.solo _ _ (by rw [← hsolo]; exact hs.x)
 have hbge : C.w0.heap.size ≤ b := hbl.resolve_right (hS b)
 obtain ⟨hxl, hform⟩ := hown
 obtain ⟨hn, hnc, hcm, hcs⟩ : n = len ∧ n ≤ cap ∧ cap ≤ maxLen ∧ cur.size = cap * ie.size := by
  rcases hform with ⟨h1, _⟩ | ⟨g1, cap1, cur1, h1, _, h3, h4, h5, h6, h7⟩
  ·cases h1
  ·cases h1
   rw [hold] at h3
   cases h3
   exact ⟨rfl, h4, h5, h6⟩
 subst hn
 have hown : w.ownsRow 0 e ie.size (.slice (some ⟨b, 0, none⟩) n cap) n xs := ⟨hxl, hform⟩
 have hot : ∀ k, k < w.heap.size → k ≠ b → w'.heap[k]? = w.heap[k]? := fun k hk hne => hgb.block k hk (fun e => hne (Option.some.inj e))
 have hown' : w'.ownsRow 0 e ie.size (.slice (some ⟨b, 0, none⟩) n cap) n (cur'.toList.take (n * ie.size)) := by
  have hcap := Nat.mul_le_mul_right ie.size hnc
  refine ⟨by simp; omega, .inr ⟨b, cap, cur', rfl, Nat.zero_le _, hnew, hnc, hcm, by omega, rfl⟩⟩
 exact {
  defers := hs.defers
  size := hs.size
  rep := fun k d hd => by
   rw [updG, lk_map] at hd
   obtain ⟨d0, h0, rfl⟩ := Option.map_eq_some_iff.1 hd
   obtain ⟨h1, h2⟩ := hs.rep k d0 h0
   exact ⟨h1, updR_rep htk hrep hlens h2⟩
  mem := {
   os := hgb.os.trans m.os
   tape := hgb.tape.trans m.tape
   output := hgb.output.trans m.output
   hsz := Nat.le_trans m.hsz hgb.size
   old := fun k hk h1 h2 => (hot k (Nat.lt_of_lt_of_le hk m.hsz) (by omega)).trans (m.old k hk h1 h2)
   keep := fun b1 o1 hf => by
    obtain ⟨h1, h2⟩ := m.keep b1 o1 hf
    refine ⟨h1, ?_⟩
    by_cases e1 : b1 = b
    ·exfalso
     subst e1
     have h3 := hfo o1 h1
     have h4 : w.cell? ⟨b1, o1, none⟩ = some (xs[o1]'(by omega)) := own_cell hown rfl o1 _ (List.getElem?_eq_getElem _)
     rw [h4] at h2
     have h5 : C.w0.heap[b1]? = none := Array.getElem?_eq_none hbge
     simp [World.cell?, h5] at h2
    ·exact (World.cell?_of_block (hot b1 (m.fzlt b1 o1 h1) e1)).trans h2
   newfz := m.newfz
   fzlt := fun b1 o1 hf => Nat.lt_of_lt_of_le (m.fzlt b1 o1 hf) hgb.size
   bxs := fun n1 ds hd => by
    rw [updB, lk_map] at hd
    obtain ⟨ds0, h0, rfl⟩ := Option.map_eq_some_iff.1 hd
    obtain ⟨b1, cs, t1, h1, h2, h3⟩ := m.bxs n1 ds0 h0
    refine ⟨b1, cs, t1, h1, (hot b1 (m.bxok n1 b1 h1).1 (fun e1 => m.bxtk n1 t b1 _ _ h1 htk (by rw [e1]; rfl))).trans h2, updR_reps htk hrep hlens h3⟩
   mps := fun _ _ h => by simp [lk] at h
   bxok := fun n1 b1 h => ⟨Nat.lt_of_lt_of_le (m.bxok n1 b1 h).1 hgb.size, (m.bxok n1 b1 h).2⟩
   bxinj := m.bxinj
   tks := fun s u f hsf => by
    by_cases e1 : s = t
    ·subst e1
     rw [htk] at hsf
     cases hsf
     exact ⟨ie, n, _, hie, hpos, hown', hfz⟩
    ·obtain ⟨i1, n1, xs1, h1, h2, h3, h4⟩ := m.tks s u f hsf
     refine ⟨i1, n1, xs1, h1, h2, h3.kept hgb ?_, h4⟩
     right
     intro e2
     exact e1 (m.tkinj s t _ _ _ _ b hsf htk e2 rfl)
   tkinj := m.tkinj
   bxtk := m.bxtk
   dfs := fun D hD => by
    obtain ⟨h1, h2⟩ := m.dfs D hD
    have hD' : D < w.heap.size := by
     rcases Nat.lt_or_ge D w.heap.size with h | h
     ·exact h
     ·rw [Array.getElem?_eq_none h] at h2; cases h2
    refine ⟨h1, (hot D hD' (fun e1 => ?_)).trans h2⟩
    subst e1
    rw [hold] at h2; cases h2
   dnd := m.dnd
   bxdf := m.bxdf
   bxdm := m.bxdm }
  x := C.Xok _ _ _ (fun k => k = b) _ _ hs.x ⟨hgb.os, hgb.tape, hgb.output, hgb.size, fun k hk hne => hot k hk hne⟩ (fun k e1 => .inr (.inl ⟨t, _, _, htk, by rw [e1]; rfl⟩)) (fun _ h => .inl h)
  fix := hs.fix }


abbrev i32 (n : Int) : D := .pd (.raw (.int .i32 n))
abbrev u8 (n : Int) : D := .pd (.raw (.int .u8 n))

def octet (c : Int) : Bool := (decide (97 ≤ c) && decide (c ≤ 122)) || (decide (48 ≤ c) && decide (c ≤ 57)) || decide (c = 45)

theorem dns_octet (c : Int) : Pure Tryz.prog 120 [i32 c] (fun d => d = bln (octet c)) := by
 refine pure_of_run follows an_zsl5t Tryz.func120 rfl ok_zsl5t.1 ok_zsl5t.2 (by simp [Tryz.ntmps120]) ?_
 rw [run_start]
 simp only [ac_zsl5t, go_sem, simprocAttr]
 repeat' (first | refine GifP.mk (fun _ => ?_) (fun _ => ?_) | refine Gif.mk (fun _ => ?_) (fun _ => ?_))
 all_goals
  simp only [retK, resD, retL, oneD, simprocAttr, Tryz.results120]
  exact ⟨_, rfl, rfl, congrArg bln (by first | rfl | (rw [Bool.eq_iff_iff]; simp only [octet]; (first | (simp; done) | (simp; omega) | (simp [*]; done) | (simp [*]; omega))) | (simp_all [octet]; done) | (exfalso; omega))⟩

theorem dns_Label_1 (c : Int) : Pure Tryz.prog 119 [i32 c] (fun d => d = bln (!octet c)) := by
 refine pure_of_run follows an_zmcx0 Tryz.func119 rfl ok_zmcx0.1 ok_zmcx0.2 (by simp [Tryz.ntmps119]) ?_
 rw [run_start]
 simp only [ac_zmcx0, go_sem, simprocAttr]
 refine (dns_octet _).callW (enters_of Tryz.func120 rfl rfl) _ rfl rfl ?_
 rintro d rfl
 simp only [go_sem, simprocAttr]
 simp only [retK, resD, retL, oneD, simprocAttr, Tryz.results119]
 exact ⟨_, rfl, rfl, rfl⟩

def runeIdx (p : Int → Bool) (s : ByteArray) : Nat → Nat → Int
 | 0, _ => -1
 | f + 1, pos => if pos < s.size then (if p (Utf8.decode s pos).1 then (pos : Int) else runeIdx p s f (pos + (Utf8.decode s pos).2)) else -1

theorem width_pos (s : ByteArray) (pos : Nat) : 1 ≤ (Utf8.decode s pos).2 := by
 unfold Utf8.decode
 dsimp only
 repeat' split
 all_goals simp

theorem runeIdx_end {p : Int → Bool} {s : ByteArray} {f pos : Nat} (h : ¬ pos < s.size) : runeIdx p s f pos = -1 := by cases f <;> simp [runeIdx, h]

theorem strings_indexFunc (p : Int → Bool) (f : FuncId) (he : Enters Tryz.prog f) (hp : ∀ c, Pure Tryz.prog f [i32 c] (fun d => d = bln (p c))) (s : ByteArray) :
 Pure Tryz.prog 166 [str s, .fn f [], bln true] (fun d => d = int (runeIdx p s s.size 0)) := by
 refine pure_of_run follows an_zkca0 Tryz.func166 rfl ok_zkca0.1 ok_zkca0.2 (by simp [Tryz.ntmps166]) ?_
 rw [run_start]
 simp only [ac_zkca0, go_sem, simprocAttr]
 refine loopS (fun k st => ∃ pos : Nat, s.size ≤ pos + k ∧ runeIdx p s k pos = runeIdx p s s.size 0 ∧
  st = ⟨[(1, .fn f []), (2, bln true), (10, .ptr 10 0)], [], [(10, .sit s pos)], .no⟩) s.size _ (Weak.refl _ _) ⟨0, by omega, rfl, rfl⟩ ?_
 rintro k st ⟨pos, hk, hr, rfl⟩
 by_cases hlt : pos < s.size
 ·obtain ⟨k, rfl⟩ : ∃ m, k = m + 1 := ⟨k - 1, by omega⟩
  have hw := width_pos s pos
  simp only [go_sem, simprocAttr, hlt]
  refine (hp _).callW he _ rfl rfl ?_
  rintro d rfl
  simp only [runeIdx, hlt, if_true] at hr
  simp only [go_sem, simprocAttr]
  refine ⟨fun h => ?_, fun h => ?_⟩
  ·simp only [retK, resD, retL, oneD, simprocAttr, Tryz.results166]
   simp at h
   simp only [h, if_true] at hr
   exact ⟨_, rfl, rfl, congrArg int hr⟩
  ·simp at h
   simp only [h, Bool.false_eq_true, if_false] at hr
   refine ⟨k, _, ?_, ?_, pos + (Utf8.decode s pos).2, ?_, hr, rfl⟩
   ·omega
   ·exact lessA
   ·omega
 ·simp only [go_sem, simprocAttr, hlt]
  simp only [retK, resD, retL, oneD, simprocAttr, Tryz.results166]
  rw [runeIdx_end hlt] at hr
  exact ⟨_, rfl, rfl, congrArg int hr⟩

theorem strings_IndexFunc (p : Int → Bool) (f : FuncId) (he : Enters Tryz.prog f) (hp : ∀ c, Pure Tryz.prog f [i32 c] (fun d => d = bln (p c))) (s : ByteArray) :
 Pure Tryz.prog 121 [str s, .fn f []] (fun d => d = int (runeIdx p s s.size 0)) := by
 refine pure_of_run follows an_zgrrf Tryz.func121 rfl ok_zgrrf.1 ok_zgrrf.2 (by simp [Tryz.ntmps121]) ?_
 rw [run_start]
 simp only [ac_zgrrf, go_sem, simprocAttr]
 refine (strings_indexFunc p f he hp s).callW (enters_of Tryz.func166 rfl rfl) _ rfl rfl ?_
 rintro d rfl
 simp only [go_sem, simprocAttr]
 simp only [retK, resD, retL, oneD, simprocAttr, Tryz.results121]
 exact ⟨_, rfl, rfl, rfl⟩

def label (s : ByteArray) : Bool :=
 !decide (s = ⟨#[]⟩) && decide (s.size ≤ 20) && decide (runeIdx (fun c => !octet c) s s.size 0 < 0) && (match s[0]? with | some b => !decide (b.toNat = 45) | none => false) && (match s[s.size - 1]? with | some b => !decide (b.toNat = 45) | none => false)

theorem at_byte {s : ByteArray} {i : Nat} (h : i < s.size) : ∃ b, s[i]? = some b := ⟨s[i], by simp [h]⟩

theorem size_pos {s : ByteArray} (h : s ≠ ⟨#[]⟩) : 0 < s.size := by
 rcases Nat.eq_zero_or_pos s.size with h0 | h0
 ·exact absurd (by cases s with | mk a => simp only [ByteArray.size] at h0; rw [Array.eq_empty_of_size_eq_zero h0]) h
 ·exact h0

theorem dns_Label (s : ByteArray) : Pure Tryz.prog 71 [str s] (fun d => d = bln (label s)) := by
 refine pure_of_run follows an_zovze Tryz.func71 rfl ok_zovze.1 ok_zovze.2 (by simp [Tryz.ntmps71]) ?_
 rw [run_start]
 simp only [ac_zovze, go_sem, simprocAttr]
 refine GifP.mk (fun h1 => ?_) (fun h1 => ?_)
 ·simp only [retK, resD, retL, oneD, simprocAttr, Tryz.results71]
  exact ⟨_, rfl, rfl, congrArg bln (by simp [label, h1])⟩
 have hpos := size_pos h1
 refine GifP.mk (fun h2 => ?_) (fun h2 => ?_)
 rotate_left
 ·simp only [retK, resD, retL, oneD, simprocAttr, Tryz.results71]
  exact ⟨_, rfl, rfl, congrArg bln (by simp [label]; omega)⟩
 refine (strings_IndexFunc _ _ (enters_of Tryz.func119 rfl rfl) dns_Label_1 s).callW (enters_of Tryz.func121 rfl rfl) _ rfl rfl ?_
 rintro d rfl
 obtain ⟨b0, hb0⟩ : ∃ b, s[0]? = some b := at_byte hpos
 obtain ⟨b1, hb1⟩ : ∃ b, s[s.size - 1]? = some b := at_byte (by omega)
 have hw : IntKind.i64.wrap ((s.size : Int) - 1) = ((s.size - 1 : Nat) : Int) := by rw [IntWalk.i64_in _ (by omega)]; omega
 simp only [go_sem, simprocAttr, hb0, hb1, hw]
 have h20 : s.size ≤ 20 := by omega
 repeat' (first | refine GifP.mk (fun _ => ?_) (fun _ => ?_) | refine Gif.mk (fun _ => ?_) (fun _ => ?_))
 all_goals
  simp only [retK, resD, retL, oneD, simprocAttr, Tryz.results71]
  exact ⟨_, rfl, rfl, congrArg bln (by first | rfl | (rw [Bool.eq_iff_iff]; simp only [label, hb0, hb1, h1, h20]; (first | (simp; done) | (simp; omega) | (simp [*]; done) | (simp [*]; omega))) | (simp_all [label, hb0, hb1, h1, h20]; done) | (exfalso; omega))⟩


theorem pure_of_calls {P : Program} {f : FuncId} {args : List D} {vs : List Value} {v : Value} {d : D} (ha : ∀ g w us, Reps g w args us → us = vs) (hd : d.closed = true) (hv : ∀ g w, Rep g w d v)
 (h : ∀ w, Calls P f vs.toArray w fun e w' => e = .returned v ∧ w' = w) : Pure P f args (fun x => x = d) := by
 intro Fz w us hlt hr
 obtain rfl := ha _ _ _ hr
 refine (h w).mono ?_
 rintro e w' ⟨rfl, rfl⟩
 exact ⟨v, d, Fz, rfl, rfl, hd, Below.refl _ _, Ex.refl _ _, hlt, fun _ _ h _ => h, hv _ _⟩

set_option maxHeartbeats 1000000 in
set_option maxRecDepth 100000 in
theorem run_stringslite_IndexByte (s : ByteArray) (c : Int) (w : World) :
 Calls Tryz.prog 231 #[.string s, .int .u8 c] w fun e w' => e = .returned (.int .i64 (Lib.indexByte s.data.toList c.toNat.toUInt8)) ∧ w' = w := by
 go_enter Tryz.func231, Tryz.ntmps231
 go_wp2
 rw [run_callFunc_extern Tryz.func245 (by kernel_rfl) (by kernel_rfl) (by kernel_rfl) (e := Extern.BytealgIndexByte.indexByte) (by kernel_rfl), Lib.run_indexByteString]
 simp only [Result.andThen]
 rw [Oper.upon_value]
 go_wp2
 go_ret
 exact ⟨rfl, rfl⟩

theorem rep_raw_inv {g : Gh} {w : World} {v u : Value} (h : Rep g w (.pd (.raw v)) u) : u = v := by
 simp only [Rep] at h
 cases h; rfl

theorem reps_two {g : Gh} {w : World} {a b : Value} {us : List Value} (h : Reps g w [.pd (.raw a), .pd (.raw b)] us) : us = [a, b] := by
 simp only [Reps] at h
 obtain ⟨x, r, rfl, hx, y, r', rfl, hy, rfl⟩ := h
 rw [rep_raw_inv hx, rep_raw_inv hy]

theorem stringslite_IndexByte (s : ByteArray) (c : Int) : Pure Tryz.prog 231 [str s, u8 c] (fun d => d = int (Lib.indexByte s.data.toList c.toNat.toUInt8)) :=
 pure_of_calls (vs := [.string s, .int .u8 c]) (v := .int .i64 (Lib.indexByte s.data.toList c.toNat.toUInt8)) (fun _ _ _ h => reps_two h) rfl (fun _ _ => by simp only [Rep]; exact .raw _ rfl) (run_stringslite_IndexByte s c)

theorem strings_IndexByte (s : ByteArray) (c : Int) : Pure Tryz.prog 215 [str s, u8 c] (fun d => d = int (Lib.indexByte s.data.toList c.toNat.toUInt8)) := by
 refine pure_of_run follows an_zixxy Tryz.func215 rfl ok_zixxy.1 ok_zixxy.2 (by simp [Tryz.ntmps215]) ?_
 rw [run_start]
 simp only [ac_zixxy, go_sem, simprocAttr]
 refine (stringslite_IndexByte s c).callW (enters_of Tryz.func231 rfl rfl) _ rfl rfl ?_
 rintro d rfl
 simp only [go_sem, simprocAttr]
 simp only [retK, resD, retL, oneD, simprocAttr, Tryz.results215]
 exact ⟨_, rfl, rfl, rfl⟩

theorem stringslite_Index (s : ByteArray) (c : UInt8) : Pure Tryz.prog 207 [str s, str ⟨#[c]⟩] (fun d => d = int (Lib.indexByte s.data.toList c)) := by
 refine pure_of_run follows an_zn6ys Tryz.func207 rfl ok_zn6ys.1 ok_zn6ys.2 (by simp [Tryz.ntmps207]) ?_
 rw [run_start]
 have h1 : (ByteArray.mk #[c]).size = 1 := rfl
 have h2 : (ByteArray.mk #[c])[0]? = some c := rfl
 have h3 : ((1 : Nat) : Int) = 1 := rfl
 have h4 : ((1 : Int) = 0) = False := by simp
 simp only [ac_zn6ys, go_sem, simprocAttr, h1, h2, h3, h4]
 refine GifP.mk (fun he => ?_) (fun he => ?_)
 ·simp only [retK, resD, retL, oneD, simprocAttr, Tryz.results207]
  exact ⟨_, rfl, rfl, congrArg int (by rw [← he]; simp [Lib.indexByte])⟩
 refine (stringslite_IndexByte s c.toNat).callW (enters_of Tryz.func231 rfl rfl) _ rfl rfl ?_
 rintro d rfl
 simp only [go_sem, simprocAttr]
 simp only [retK, resD, retL, oneD, simprocAttr, Tryz.results207]
 exact ⟨_, rfl, rfl, congrArg int (by simp)⟩

theorem strings_Index (s : ByteArray) (c : UInt8) : Pure Tryz.prog 210 [str s, str ⟨#[c]⟩] (fun d => d = int (Lib.indexByte s.data.toList c)) := by
 refine pure_of_run follows an_z89f Tryz.func210 rfl ok_z89f.1 ok_z89f.2 (by simp [Tryz.ntmps210]) ?_
 rw [run_start]
 simp only [ac_z89f, go_sem, simprocAttr]
 refine (stringslite_Index s c).callW (enters_of Tryz.func207 rfl rfl) _ rfl rfl ?_
 rintro d rfl
 simp only [go_sem, simprocAttr]
 simp only [retK, resD, retL, oneD, simprocAttr, Tryz.results210]
 exact ⟨_, rfl, rfl, rfl⟩

def splitB (c : UInt8) : Nat → ByteArray → List ByteArray
 | 0, s => [s]
 | f + 1, s => if Lib.indexByte s.data.toList c < 0 then [s] else s.extract 0 (Lib.indexByte s.data.toList c).toNat :: splitB c f (s.extract ((Lib.indexByte s.data.toList c).toNat + 1) s.size)

theorem indexByte_lt : ∀ (l : List UInt8) (c : UInt8), Lib.indexByte l c < 0 ∨ Lib.indexByte l c < l.length
 | [], c => by simp [Lib.indexByte]
 | b :: l, c => by
   have := indexByte_lt l c
   simp only [Lib.indexByte, List.length_cons]
   split
   ·right; omega
   ·split
    ·left; decide
    ·right; rename_i h1 h2; have := Lib.indexByte_ge l c; simp at h2; omega

theorem size_list (s : ByteArray) : s.data.toList.length = s.size := rfl

theorem drop_cons_at {α : Type} {l r : List α} {i : Nat} {x : α} (h : l.drop i = x :: r) : l[i]? = some x ∧ l.drop (i + 1) = r := by
 constructor
 ·have := congrArg (fun m => m[0]?) h
  simpa using this
 ·have := congrArg (fun m => m.drop 1) h
  simpa [List.drop_drop] using this

theorem splitB_end {c : UInt8} {k : Nat} {r : ByteArray} (h : Lib.indexByte r.data.toList c < 0) : splitB c k r = [r] := by
 cases k <;> simp [splitB, h]

set_option maxRecDepth 100000 in
theorem splitSeq_1 (c : UInt8) (s : ByteArray) (hs : s.size ≤ 1000000) : IterB Tryz.prog 208 [(500001, 0), (500002, 0), (500003, 0)] [(500001, [str ⟨#[c]⟩]), (500002, [str s]), (500003, [int 0])] ((splitB c s.size s).map Value.string) := by
 refine iter_of_run follows an_zjcnn Tryz.func208 rfl ok_zjcnn.1 ok_zjcnn.2 (by simp [Tryz.ntmps208]) rfl ?_
 intro l
 rw [run_start]
 have h1 : (ByteArray.mk #[c]).size = 1 := rfl
 have h3 : ((1 : Nat) : Int) = 1 := rfl
 have h4 : ((1 : Int) = 0) = False := by simp
 obtain ⟨X, hX⟩ : ∃ X, X = ((splitB c s.size s).map Value.string).map ([·]) := ⟨_, rfl⟩
 rw [← hX]
 simp only [ac_zjcnn, go_sem, simprocAttr, h1, h3, h4]
 refine loopS (fun k st => ∃ (i : Nat) (r : ByteArray), r.size ≤ k ∧ r.size ≤ 1000000 ∧ X.drop i = ((splitB c k r).map Value.string).map ([·]) ∧
  st = ⟨[(0, yieldD l), (1, .ptr 500001 0), (2, .ptr 500002 0), (3, .ptr 500003 0)], [(500001, [str ⟨#[c]⟩]), (500002, [str r]), (500003, [int 0])], [], .it l X i false⟩) s.size _ ?_ ⟨0, s, Nat.le_refl _, hs, hX, rfl⟩ ?_
 ·exact lessA
 rintro k st ⟨i, r, hk, hrs, hdr, rfl⟩
 obtain ⟨j, hj⟩ : ∃ j, Lib.indexByte r.data.toList c = j := ⟨_, rfl⟩
 simp only [go_sem, simprocAttr]
 refine (strings_Index r c).callW (enters_of Tryz.func210 rfl rfl) _ rfl rfl ?_
 rintro d rfl
 rw [hj]
 by_cases hj0 : j < 0
 ·rw [splitB_end (by omega)] at hdr
  obtain ⟨e1, e2⟩ := drop_cons_at hdr
  have e3 : X.length ≤ i + 1 := by simpa using List.drop_eq_nil_iff.1 e2
  have e4 : i < X.length := (List.getElem?_eq_some_iff.1 e1).1
  simp only [go_sem, simprocAttr, hj0, e1]
  exact ⟨⟨[], _, _, rfl, rfl, fun _ => by omega⟩, ⟨[], _, _, rfl, rfl, fun h => by cases h⟩⟩
 ·obtain ⟨m, rfl⟩ : ∃ m : Nat, j = m := ⟨j.toNat, by omega⟩
  have hm : m < r.size := by
   have := indexByte_lt r.data.toList c
   rw [hj, size_list] at this
   omega
  obtain ⟨k, rfl⟩ : ∃ n, k = n + 1 := ⟨k - 1, by omega⟩
  have hsp : splitB c (k + 1) r = r.extract 0 m :: splitB c k (r.extract (m + 1) r.size) := by
   rw [splitB, hj, if_neg hj0, Int.toNat_natCast]
  rw [hsp] at hdr
  obtain ⟨e1, e2⟩ := drop_cons_at hdr
  have w1 : IntKind.i64.wrap ((m : Int) + 0) = (m : Int) := by rw [IntWalk.i64_in _ (by omega)]; omega
  have w2 : IntKind.i64.wrap ((m : Int) + 1) = ((m + 1 : Nat) : Int) := by rw [IntWalk.i64_in _ (by omega)]; omega
  have c1 : (m ≤ r.size) = True := by simp; omega
  have c2 : (m + 1 ≤ r.size) = True := by simp; omega
  have hsz : (r.extract (m + 1) r.size).size = r.size - (m + 1) := by simp [ByteArray.size_extract]
  simp only [go_sem, simprocAttr, hj0, w1, w2, h1, h3, c1, c2, e1]
  refine ⟨⟨k, _, ?_, ?_, i + 1, r.extract (m + 1) r.size, ?_, ?_, e2, rfl⟩, ⟨[], _, _, rfl, rfl, fun h => by cases h⟩⟩
  ·omega
  ·exact lessA
  ·omega
  ·omega

theorem strings_splitSeq (s sep : ByteArray) : Full Tryz.prog 165 [str s, str sep, int 0] [] true (fun d bs => d = .fn 208 [(4, 0), (3, 0), (5, 0)] ∧ bs = [(4, [str sep]), (3, [str s]), (5, [int 0])]) := by
 refine full_of_run follows an_z70r5 Tryz.func165 rfl ok_z70r5.1 ok_z70r5.2 (by simp [Tryz.ntmps165]) (by simp [Tryz.ntmps165]) (.inl rfl) ?_
 rw [run_start]
 simp only [ac_z70r5, go_sem, simprocAttr]
 simp only [retK, fullK, resD, retL, oneD, simprocAttr, Tryz.results165]
 exact ⟨_, _, rfl, by simp [lessL, lk], rfl, rfl⟩

theorem strings_SplitSeq (s sep : ByteArray) : Full Tryz.prog 118 [str s, str sep] [] true (fun d bs => d = .fn 208 [(200001, 0), (200002, 0), (200003, 0)] ∧ bs = [(200001, [str sep]), (200002, [str s]), (200003, [int 0])]) := by
 refine full_of_run follows an_zln7r Tryz.func118 rfl ok_zln7r.1 ok_zln7r.2 (by simp [Tryz.ntmps118]) (by simp [Tryz.ntmps118]) (.inl rfl) ?_
 rw [run_start]
 simp only [ac_zln7r, go_sem, simprocAttr]
 refine (strings_splitSeq s sep).callW (enters_of Tryz.func165 rfl rfl) _ false [] [] [(4, 200001), (3, 200002), (5, 200003)] [] rfl rfl rfl ?_
 rintro d bs ⟨rfl, rfl⟩
 simp only [go_sem, simprocAttr]
 simp only [retK, fullK, resD, retL, oneD, simprocAttr, Tryz.results118]
 exact ⟨_, _, rfl, by simp [lessL, lk], rfl, rfl⟩

def dname (s : ByteArray) : Bool := decide (s.size ≤ 60) && (splitB 46 s.size s).all label

set_option maxRecDepth 100000 in
theorem dns_Name (s : ByteArray) : Pure Tryz.prog 70 [str s] (fun d => d = bln (dname s)) := by
 refine pure_of_run follows an_zmldt Tryz.func70 rfl ok_zmldt.1 ok_zmldt.2 (by simp [Tryz.ntmps70]) ?_
 rw [run_start]
 simp only [ac_zmldt, go_sem, simprocAttr]
 refine GifP.mk (fun h => ?_) (fun h => ?_)
 ·simp only [retK, iterK, resD, resA, AOp.ex, St.ev, retL, oneD, simprocAttr, ret_zmldt]
  exact ⟨_, rfl, rfl, congrArg bln (by simp only [dname]; simp; omega)⟩
 have h60 : s.size ≤ 60 := by omega
 refine (strings_SplitSeq s ⟨#[46]⟩).callW (enters_of Tryz.func118 rfl rfl) _ false [] [] [(200001, 200011), (200002, 200012), (200003, 200013)] [] rfl rfl rfl ?_
 rintro d bs ⟨rfl, rfl⟩
 simp only [go_sem, simprocAttr]
 refine rangeS ((splitB 46 s.size s).map Value.string) (fun i bs => (∀ j x, j < i → (splitB 46 s.size s)[j]? = some x → label x = true) ∧ bs = [(2, [bln false])]) rfl rfl rfl
  ((splitSeq_1 46 s (by omega)).iterW (enters_of Tryz.func208 rfl rfl) false [(200011, 500001), (200012, 500002), (200013, 500003)] rfl rfl rfl) ⟨fun _ _ h => absurd h (Nat.not_lt_zero _), rfl⟩ ?_ ?_
 ·rintro i v bs hv ⟨hpre, rfl⟩
  rw [List.getElem?_map] at hv
  obtain ⟨x, hx, rfl⟩ := Option.map_eq_some_iff.1 hv
  simp only [go_sem, simprocAttr]
  refine (dns_Label x).callW (enters_of Tryz.func71 rfl rfl) _ rfl rfl ?_
  rintro d rfl
  simp only [go_sem, simprocAttr]
  refine Gif.mk (fun hl => ?_) (fun hl => ?_)
  ·refine fun j y hj hy => ?_
   rcases Nat.lt_or_ge j i with h' | h'
   ·exact hpre j y h' hy
   ·obtain rfl : j = i := by omega
    rw [hx] at hy; cases hy; exact hl
  ·simp only [retK, iterK, resD, resA, AOp.ex, St.ev, retL, oneD, simprocAttr, ret_zmldt]
   refine ⟨_, rfl, rfl, congrArg bln ?_⟩
   have : (splitB 46 s.size s).all label = false := List.all_eq_false.2 ⟨x, List.mem_of_getElem? hx, by simp [hl]⟩
   simp [dname, this]
 ·rintro bs ⟨hall, rfl⟩
  simp only [go_sem, simprocAttr]
  simp only [retK, iterK, resD, resA, AOp.ex, St.ev, retL, oneD, simprocAttr, ret_zmldt]
  refine ⟨_, rfl, rfl, congrArg bln ?_⟩
  have : (splitB 46 s.size s).all label = true := List.all_eq_true.2 fun x hx => by
   obtain ⟨j, hj⟩ := List.getElem?_of_mem hx
   exact hall j x (by have := (List.getElem?_eq_some_iff.1 hj).1; simpa using this) hj
  simp [dname, this, h60]

end Go.Proofs.YtbjaopoipkphnaaGreatDoor


