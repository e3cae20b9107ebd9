/- Texts of the prover's, joined: D3 F1 F2 F3 F0 F4 F5. -/
import Derived.Test.YtmdepehjfnpklaaGreatDoorK3
import Derived.Test.YtmdepehjfnpklaaGreatDoorProg
import Derived.KernelRfl
import Derived.Lib.Bytealg
import Derived.WalkKit
import Derived.Lib.Walk
import Derived.BigCall
import Derived.BigGuard
import Derived.Deep.Draws
import Derived.Deep.LoopGhost
import Derived.Lib.ConvBytes
import Derived.Laws.BytesString

namespace Go.Proofs.YtmdepehjfnpklaaGreatDoor
open Go

def an_zsl5t : Ann := ⟨[(0, [0]), (1, [2])], [], []⟩
def ac_zsl5t : AC := (.seq (.region [.mk none (some 2) (.mv (.const (.bool false)))] (some [0])) (.seq (.region [.mk none (some 3) (.mv (.tmp 0)), .mk none (some 4) (.bin .geq (.tmp 3) (.const (.int .i32 97))), .mk none (some 5) (.mv (.tmp 4)), .mk (some (5, true)) (some 6) (.mv (.tmp 0)), .mk (some (5, true)) (some 7) (.bin .leq (.tmp 6) (.const (.int .i32 122))), .mk none (some 8) (.pick (.tmp 5) (.tmp 7) (.const (.bool false))), .mk none (some 9) (.mv (.tmp 8)), .mk (some (9, false)) (some 10) (.mv (.tmp 0)), .mk (some (9, false)) (some 11) (.bin .geq (.tmp 10) (.const (.int .i32 48))), .mk (some (9, false)) (some 12) (.mv (.tmp 11)), .mk (some (12, true)) (some 13) (.mv (.tmp 0)), .mk (some (12, true)) (some 14) (.bin .leq (.tmp 13) (.const (.int .i32 57))), .mk (some (9, false)) (some 15) (.pick (.tmp 12) (.tmp 14) (.const (.bool false))), .mk none (some 16) (.pick (.tmp 9) (.const (.bool true)) (.tmp 15)), .mk none (some 17) (.mv (.tmp 16)), .mk (some (17, false)) (some 18) (.mv (.tmp 0)), .mk (some (17, false)) (some 19) (.bin .eql (.tmp 18) (.const (.int .i32 45))), .mk none (some 20) (.pick (.tmp 17) (.const (.bool true)) (.tmp 19)), .mk none (some 2) (.mv (.tmp 20))] (some [2])) .ret))
theorem ok_zsl5t : compC Tryz.prog an_zsl5t (Tryz.f109.body.getD .skip) = some ac_zsl5t := by kernel_rfl
theorem dst_zsl5t : ac_zsl5t.dstOK Tryz.f109.ntmps (fun i => decide (i < Tryz.f109.ntmps)) = true := by kernel_rfl

def an_zmcx0 : Ann := ⟨[(0, [0]), (1, [2])], [], []⟩
def ac_zmcx0 : AC := (.seq (.region [.mk none (some 2) (.mv (.const (.bool false)))] (some [0])) (.seq (.region [.mk none (some 3) (.mv (.tmp 0)), .mk none (some 4) (.call 109 [.tmp 3]), .mk none (some 5) (.un .not (.tmp 4)), .mk none (some 2) (.mv (.tmp 5))] (some [2])) .ret))
theorem ok_zmcx0 : compC Tryz.prog an_zmcx0 (Tryz.f108.body.getD .skip) = some ac_zmcx0 := by kernel_rfl
theorem dst_zmcx0 : ac_zmcx0.dstOK Tryz.f108.ntmps (fun i => decide (i < Tryz.f108.ntmps)) = true := by kernel_rfl

def an_zkca0 : Ann := ⟨[(0, [0, 1, 2]), (1, [1, 2, 10]), (2, [1, 2, 10, 11, 12]), (3, [1, 2, 7, 8, 10]), (4, [1, 2, 7, 10, 19]), (5, [6]), (6, [6])], [], []⟩
def ac_zkca0 : AC := (.seq (.region [.mk none (some 6) (.mv (.const (.int .i64 0)))] (some [0, 1, 2])) (.seq (.seq (.region [.mk none (some 9) (.mv (.tmp 0)), .mk none (some 10) (.srange (.tmp 9))] (some [1, 2, 10])) (.block 0 (.loop (.seq (.region [.mk none (some 11) (.snext (.tmp 10)), .mk none (some 12) (.extract (.tmp 11) 0)] (some [1, 2, 10, 11, 12])) (.seq (.cond (.tmp 12) .skip (.exit 0)) (.block 1 (.seq (.region [.mk none (some 13) (.extract (.tmp 11) 1), .mk none (some 14) (.extract (.tmp 11) 2), .mk none (some 7) (.mv (.tmp 13)), .mk none (some 8) (.mv (.tmp 14))] (some [1, 2, 7, 8, 10])) (.seq (.region [.mk none (some 15) (.mv (.tmp 1)), .mk none (some 16) (.mv (.tmp 8)), .mk none (some 17) (.callv (.tmp 15) [.tmp 16]), .mk none (some 18) (.mv (.tmp 2)), .mk none (some 19) (.binB false (.tmp 17) (.tmp 18))] (some [1, 2, 7, 10, 19])) (.cond (.tmp 19) (.seq (.region [.mk none (some 20) (.mv (.tmp 7)), .mk none (some 6) (.mv (.tmp 20))] (some [6])) .ret) .skip))))))))) (.seq (.region [.mk none (some 6) (.mv (.const (.int .i64 (-1))))] (some [6])) .ret)))
theorem ok_zkca0 : compC Tryz.prog an_zkca0 (Tryz.f146.body.getD .skip) = some ac_zkca0 := by kernel_rfl
theorem dst_zkca0 : ac_zkca0.dstOK Tryz.f146.ntmps (fun i => decide (i < Tryz.f146.ntmps)) = true := by kernel_rfl

def an_zgrrf : Ann := ⟨[(0, [0, 1]), (1, [4])], [], []⟩
def ac_zgrrf : AC := (.seq (.region [.mk none (some 4) (.mv (.const (.int .i64 0)))] (some [0, 1])) (.seq (.region [.mk none (some 5) (.mv (.tmp 0)), .mk none (some 6) (.mv (.tmp 1)), .mk none (some 7) (.call 146 [.tmp 5, .tmp 6, .const (.bool true)]), .mk none (some 4) (.mv (.tmp 7))] (some [4])) .ret))
theorem ok_zgrrf : compC Tryz.prog an_zgrrf (Tryz.f110.body.getD .skip) = some ac_zgrrf := by kernel_rfl
theorem dst_zgrrf : ac_zgrrf.dstOK Tryz.f110.ntmps (fun i => decide (i < Tryz.f110.ntmps)) = true := by kernel_rfl

def an_zovze : Ann := ⟨[(0, [0]), (1, [0, 3]), (2, [2])], [], []⟩
def ac_zovze : AC := (.seq (.region [.mk none (some 2) (.mv (.const (.bool false)))] (some [0])) (.seq (.region [.mk none (some 3) (.mv (.func 108))] (some [0, 3])) (.seq (.region [.mk none (some 4) (.mv (.tmp 0)), .mk none (some 5) (.bin .neq (.tmp 4) (.const (.string ⟨#[]⟩))), .mk none (some 6) (.mv (.tmp 5)), .mk (some (6, true)) (some 7) (.mv (.tmp 0)), .mk (some (6, true)) (some 8) (.len (.tmp 7) true), .mk (some (6, true)) (some 9) (.bin .leq (.tmp 8) (.const (.int .i64 20))), .mk none (some 10) (.pick (.tmp 6) (.tmp 9) (.const (.bool false))), .mk none (some 11) (.mv (.tmp 10)), .mk (some (11, true)) (some 12) (.mv (.tmp 0)), .mk (some (11, true)) (some 13) (.mv (.tmp 3)), .mk (some (11, true)) (some 14) (.call 110 [.tmp 12, .tmp 13]), .mk (some (11, true)) (some 15) (.bin .lss (.tmp 14) (.const (.int .i64 0))), .mk none (some 16) (.pick (.tmp 11) (.tmp 15) (.const (.bool false))), .mk none (some 17) (.mv (.tmp 16)), .mk (some (17, true)) (some 18) (.mv (.tmp 0)), .mk (some (17, true)) (some 19) (.idxS (.tmp 18) (.const (.int .i64 0))), .mk (some (17, true)) (some 20) (.bin .neq (.tmp 19) (.const (.int .u8 45))), .mk none (some 21) (.pick (.tmp 17) (.tmp 20) (.const (.bool false))), .mk none (some 22) (.mv (.tmp 21)), .mk (some (22, true)) (some 23) (.mv (.tmp 0)), .mk (some (22, true)) (some 24) (.mv (.tmp 0)), .mk (some (22, true)) (some 25) (.len (.tmp 24) true), .mk (some (22, true)) (some 26) (.bin .sub (.tmp 25) (.const (.int .i64 1))), .mk (some (22, true)) (some 27) (.idxS (.tmp 23) (.tmp 26)), .mk (some (22, true)) (some 28) (.bin .neq (.tmp 27) (.const (.int .u8 45))), .mk none (some 29) (.pick (.tmp 22) (.tmp 28) (.const (.bool false))), .mk none (some 2) (.mv (.tmp 29))] (some [2])) .ret)))
theorem ok_zovze : compC Tryz.prog an_zovze (Tryz.f70.body.getD .skip) = some ac_zovze := by kernel_rfl
theorem dst_zovze : ac_zovze.dstOK Tryz.f70.ntmps (fun i => decide (i < Tryz.f70.ntmps)) = true := by kernel_rfl

def an_z89f : Ann := ⟨[(0, [0, 1]), (1, [4])], [], []⟩
def ac_z89f : AC := (.seq (.region [.mk none (some 4) (.mv (.const (.int .i64 0)))] (some [0, 1])) (.seq (.region [.mk none (some 5) (.mv (.tmp 0)), .mk none (some 6) (.mv (.tmp 1)), .mk none (some 7) (.call 168 [.tmp 5, .tmp 6]), .mk none (some 4) (.mv (.tmp 7))] (some [4])) .ret))
theorem ok_z89f : compC Tryz.prog an_z89f (Tryz.f151.body.getD .skip) = some ac_z89f := by kernel_rfl
theorem dst_z89f : ac_z89f.dstOK Tryz.f151.ntmps (fun i => decide (i < Tryz.f151.ntmps)) = true := by kernel_rfl

def an_zn6ys : Ann := ⟨[(0, [0, 1]), (1, [0, 1, 5]), (2, [0, 1, 5, 16]), (3, [4]), (4, [0, 1, 5, 24]), (5, [4]), (6, [0, 1, 5, 31]), (7, [4]), (8, [0, 1, 5, 36]), (9, [4]), (10, [0, 1, 5, 6]), (11, [0, 1, 5, 6, 7]), (12, [0, 1, 5, 6, 7, 8]), (13, [0, 1, 5, 6, 7, 8, 9]), (14, [0, 1, 5, 6, 7, 8, 9, 10]), (15, [0, 1, 5, 6, 7, 8, 9, 10, 59]), (16, [0, 1, 5, 6, 7, 8, 9, 10, 64]), (17, [0, 1, 5, 6, 7, 8, 9, 10, 11]), (18, [0, 1, 5, 6, 7, 8, 9, 10, 11, 73]), (19, [4]), (20, [0, 1, 5, 6, 7, 8, 9, 10]), (21, [0, 1, 5, 6, 7, 8, 9, 10, 93]), (22, [4]), (23, [0, 1, 5, 6, 7, 8, 9, 10]), (24, [0, 1, 5, 6, 7, 8, 9, 10]), (25, [0, 1, 5, 6, 7, 8, 9, 10, 107]), (26, [8, 12]), (27, [8, 12, 114]), (28, [4]), (29, [4]), (30, [0, 1, 5, 6, 7, 8, 9, 10, 132]), (31, [8, 13]), (32, [8, 13, 139]), (33, [4]), (34, [4]), (35, [4])], [], []⟩
def ac_zn6ys : AC := (.seq (.region [.mk none (some 4) (.mv (.const (.int .i64 0)))] (some [0, 1])) (.seq (.region [.mk none (some 14) (.mv (.tmp 1)), .mk none (some 15) (.len (.tmp 14) true), .mk none (some 5) (.mv (.tmp 15))] (some [0, 1, 5])) (.seq (.block 0 (.seq (.region [.mk none (some 17) (.mv (.tmp 5)), .mk none (some 18) (.bin .eql (.tmp 17) (.const (.int .i64 0))), .mk none (some 19) (.mv (.tmp 18)), .mk (some (19, false)) (some 20) (.mv (.tmp 1)), .mk (some (19, false)) (some 21) (.mv (.tmp 0)), .mk (some (19, false)) (some 22) (.bin .eql (.tmp 20) (.tmp 21)), .mk none (some 23) (.pick (.tmp 19) (.const (.bool true)) (.tmp 22)), .mk none (some 16) (.mv (.tmp 23))] (some [0, 1, 5, 16])) (.cond (.tmp 16) (.seq (.region [.mk none (some 4) (.mv (.const (.int .i64 0)))] (some [4])) .ret) (.seq (.region [.mk none (some 25) (.mv (.tmp 5)), .mk none (some 26) (.bin .eql (.tmp 25) (.const (.int .i64 1))), .mk none (some 24) (.mv (.tmp 26))] (some [0, 1, 5, 24])) (.cond (.tmp 24) (.seq (.region [.mk none (some 27) (.mv (.tmp 0)), .mk none (some 28) (.mv (.tmp 1)), .mk none (some 29) (.idxS (.tmp 28) (.const (.int .i64 0))), .mk none (some 30) (.call 169 [.tmp 27, .tmp 29]), .mk none (some 4) (.mv (.tmp 30))] (some [4])) .ret) (.seq (.region [.mk none (some 32) (.mv (.tmp 5)), .mk none (some 33) (.mv (.tmp 0)), .mk none (some 34) (.len (.tmp 33) true), .mk none (some 35) (.bin .geq (.tmp 32) (.tmp 34)), .mk none (some 31) (.mv (.tmp 35))] (some [0, 1, 5, 31])) (.cond (.tmp 31) (.seq (.region [.mk none (some 4) (.mv (.const (.int .i64 (-1))))] (some [4])) .ret) (.seq (.region [.mk none (some 37) (.mv (.tmp 5)), .mk none (some 38) (.load none (.global 2)), .mk none (some 39) (.bin .leq (.tmp 37) (.tmp 38)), .mk none (some 40) (.mv (.tmp 39)), .mk (some (40, true)) (some 41) (.mv (.tmp 0)), .mk (some (40, true)) (some 42) (.len (.tmp 41) true), .mk (some (40, true)) (some 43) (.bin .leq (.tmp 42) (.const (.int .i64 64))), .mk none (some 44) (.pick (.tmp 40) (.tmp 43) (.const (.bool false))), .mk none (some 36) (.mv (.tmp 44))] (some [0, 1, 5, 36])) (.cond (.tmp 36) (.seq (.region [.mk none (some 45) (.mv (.tmp 0)), .mk none (some 46) (.mv (.tmp 1)), .mk none (some 47) (.call 179 [.tmp 45, .tmp 46]), .mk none (some 4) (.mv (.tmp 47))] (some [4])) .ret) .skip))))))))) (.seq (.region [.mk none (some 48) (.mv (.tmp 1)), .mk none (some 49) (.idxS (.tmp 48) (.const (.int .i64 0))), .mk none (some 6) (.mv (.tmp 49))] (some [0, 1, 5, 6])) (.seq (.region [.mk none (some 50) (.mv (.tmp 1)), .mk none (some 51) (.idxS (.tmp 50) (.const (.int .i64 1))), .mk none (some 7) (.mv (.tmp 51))] (some [0, 1, 5, 6, 7])) (.seq (.region [.mk none (some 8) (.mv (.const (.int .i64 0)))] (some [0, 1, 5, 6, 7, 8])) (.seq (.region [.mk none (some 52) (.mv (.tmp 0)), .mk none (some 53) (.len (.tmp 52) true), .mk none (some 54) (.mv (.tmp 5)), .mk none (some 55) (.bin .sub (.tmp 53) (.tmp 54)), .mk none (some 56) (.bin .add (.tmp 55) (.const (.int .i64 1))), .mk none (some 9) (.mv (.tmp 56))] (some [0, 1, 5, 6, 7, 8, 9])) (.seq (.region [.mk none (some 10) (.mv (.const (.int .i64 0)))] (some [0, 1, 5, 6, 7, 8, 9, 10])) (.seq (.block 1 (.loop (.seq (.seq (.region [.mk none (some 57) (.mv (.tmp 8)), .mk none (some 58) (.mv (.tmp 9)), .mk none (some 59) (.bin .lss (.tmp 57) (.tmp 58))] (some [0, 1, 5, 6, 7, 8, 9, 10, 59])) (.cond (.tmp 59) .skip (.exit 1))) (.block 2 (.seq (.seq (.region [.mk none (some 60) (.mv (.tmp 0)), .mk none (some 61) (.mv (.tmp 8)), .mk none (some 62) (.idxS (.tmp 60) (.tmp 61)), .mk none (some 63) (.mv (.tmp 6)), .mk none (some 64) (.bin .neq (.tmp 62) (.tmp 63))] (some [0, 1, 5, 6, 7, 8, 9, 10, 64])) (.cond (.tmp 64) (.seq (.region [.mk none (some 65) (.mv (.tmp 0)), .mk none (some 66) (.mv (.tmp 8)), .mk none (some 67) (.bin .add (.tmp 66) (.const (.int .i64 1))), .mk none (some 68) (.mv (.tmp 9)), .mk none (some 69) (.slcS (.tmp 65) (some (.tmp 67)) (some (.tmp 68))), .mk none (some 70) (.mv (.tmp 6)), .mk none (some 71) (.call 169 [.tmp 69, .tmp 70]), .mk none (some 11) (.mv (.tmp 71))] (some [0, 1, 5, 6, 7, 8, 9, 10, 11])) (.seq (.seq (.region [.mk none (some 72) (.mv (.tmp 11)), .mk none (some 73) (.bin .lss (.tmp 72) (.const (.int .i64 0)))] (some [0, 1, 5, 6, 7, 8, 9, 10, 11, 73])) (.cond (.tmp 73) (.seq (.region [.mk none (some 4) (.mv (.const (.int .i64 (-1))))] (some [4])) .ret) .skip)) (.region [.mk none (some 74) (.mv (.tmp 8)), .mk none (some 75) (.mv (.tmp 11)), .mk none (some 76) (.bin .add (.tmp 75) (.const (.int .i64 1))), .mk none (some 77) (.bin .add (.tmp 74) (.tmp 76)), .mk none (some 8) (.mv (.tmp 77))] (some [0, 1, 5, 6, 7, 8, 9, 10])))) .skip)) (.seq (.seq (.region [.mk none (some 78) (.mv (.tmp 0)), .mk none (some 79) (.mv (.tmp 8)), .mk none (some 80) (.bin .add (.tmp 79) (.const (.int .i64 1))), .mk none (some 81) (.idxS (.tmp 78) (.tmp 80)), .mk none (some 82) (.mv (.tmp 7)), .mk none (some 83) (.bin .eql (.tmp 81) (.tmp 82)), .mk none (some 84) (.mv (.tmp 83)), .mk (some (84, true)) (some 85) (.mv (.tmp 0)), .mk (some (84, true)) (some 86) (.mv (.tmp 8)), .mk (some (84, true)) (some 87) (.mv (.tmp 8)), .mk (some (84, true)) (some 88) (.mv (.tmp 5)), .mk (some (84, true)) (some 89) (.bin .add (.tmp 87) (.tmp 88)), .mk (some (84, true)) (some 90) (.slcS (.tmp 85) (some (.tmp 86)) (some (.tmp 89))), .mk (some (84, true)) (some 91) (.mv (.tmp 1)), .mk (some (84, true)) (some 92) (.bin .eql (.tmp 90) (.tmp 91)), .mk none (some 93) (.pick (.tmp 84) (.tmp 92) (.const (.bool false)))] (some [0, 1, 5, 6, 7, 8, 9, 10, 93])) (.cond (.tmp 93) (.seq (.region [.mk none (some 94) (.mv (.tmp 8)), .mk none (some 4) (.mv (.tmp 94))] (some [4])) .ret) .skip)) (.seq (.region [.mk none (some 95) (.mv (.tmp 8)), .mk none (some 96) (.bin .add (.tmp 95) (.const (.int .i64 1))), .mk none (some 8) (.mv (.tmp 96))] (some [0, 1, 5, 6, 7, 8, 9, 10])) (.seq (.region [.mk none (some 97) (.mv (.tmp 10)), .mk none (some 98) (.bin .add (.tmp 97) (.const (.int .i64 1))), .mk none (some 10) (.mv (.tmp 98))] (some [0, 1, 5, 6, 7, 8, 9, 10])) (.seq (.region [.mk none (some 99) (.mv (.tmp 5)), .mk none (some 100) (.load none (.global 2)), .mk none (some 101) (.bin .leq (.tmp 99) (.tmp 100)), .mk none (some 102) (.mv (.tmp 101)), .mk (some (102, true)) (some 103) (.mv (.tmp 10)), .mk (some (102, true)) (some 104) (.mv (.tmp 8)), .mk (some (102, true)) (some 105) (.call 180 [.tmp 104]), .mk (some (102, true)) (some 106) (.bin .gtr (.tmp 103) (.tmp 105)), .mk none (some 107) (.pick (.tmp 102) (.tmp 106) (.const (.bool false)))] (some [0, 1, 5, 6, 7, 8, 9, 10, 107])) (.cond (.tmp 107) (.seq (.region [.mk none (some 108) (.mv (.tmp 0)), .mk none (some 109) (.mv (.tmp 8)), .mk none (some 110) (.slcS (.tmp 108) (some (.tmp 109)) none), .mk none (some 111) (.mv (.tmp 1)), .mk none (some 112) (.call 179 [.tmp 110, .tmp 111]), .mk none (some 12) (.mv (.tmp 112))] (some [8, 12])) (.seq (.seq (.region [.mk none (some 113) (.mv (.tmp 12)), .mk none (some 114) (.bin .geq (.tmp 113) (.const (.int .i64 0)))] (some [8, 12, 114])) (.cond (.tmp 114) (.seq (.region [.mk none (some 115) (.mv (.tmp 12)), .mk none (some 116) (.mv (.tmp 8)), .mk none (some 117) (.bin .add (.tmp 115) (.tmp 116)), .mk none (some 4) (.mv (.tmp 117))] (some [4])) .ret) .skip)) (.seq (.region [.mk none (some 4) (.mv (.const (.int .i64 (-1))))] (some [4])) .ret))) (.seq (.region [.mk none (some 118) (.mv (.tmp 5)), .mk none (some 119) (.load none (.global 2)), .mk none (some 120) (.bin .gtr (.tmp 118) (.tmp 119)), .mk none (some 121) (.mv (.tmp 120)), .mk (some (121, true)) (some 122) (.mv (.tmp 10)), .mk (some (121, true)) (some 123) (.mv (.tmp 8)), .mk (some (121, true)) (some 124) (.bin .shr (.tmp 123) (.const (.int .u64 4))), .mk (some (121, true)) (some 125) (.bin .add (.const (.int .i64 4)) (.tmp 124)), .mk (some (121, true)) (some 126) (.bin .geq (.tmp 122) (.tmp 125)), .mk none (some 127) (.pick (.tmp 121) (.tmp 126) (.const (.bool false))), .mk none (some 128) (.mv (.tmp 127)), .mk (some (128, true)) (some 129) (.mv (.tmp 8)), .mk (some (128, true)) (some 130) (.mv (.tmp 9)), .mk (some (128, true)) (some 131) (.bin .lss (.tmp 129) (.tmp 130)), .mk none (some 132) (.pick (.tmp 128) (.tmp 131) (.const (.bool false)))] (some [0, 1, 5, 6, 7, 8, 9, 10, 132])) (.cond (.tmp 132) (.seq (.region [.mk none (some 133) (.mv (.tmp 0)), .mk none (some 134) (.mv (.tmp 8)), .mk none (some 135) (.slcS (.tmp 133) (some (.tmp 134)) none), .mk none (some 136) (.mv (.tmp 1)), .mk none (some 137) (.call 181 [.tmp 135, .tmp 136]), .mk none (some 13) (.mv (.tmp 137))] (some [8, 13])) (.seq (.seq (.region [.mk none (some 138) (.mv (.tmp 13)), .mk none (some 139) (.bin .lss (.tmp 138) (.const (.int .i64 0)))] (some [8, 13, 139])) (.cond (.tmp 139) (.seq (.region [.mk none (some 4) (.mv (.const (.int .i64 (-1))))] (some [4])) .ret) .skip)) (.seq (.region [.mk none (some 140) (.mv (.tmp 8)), .mk none (some 141) (.mv (.tmp 13)), .mk none (some 142) (.bin .add (.tmp 140) (.tmp 141)), .mk none (some 4) (.mv (.tmp 142))] (some [4])) .ret))) .skip)))))))))))) (.seq (.region [.mk none (some 4) (.mv (.const (.int .i64 (-1))))] (some [4])) .ret))))))))))
theorem ok_zn6ys : compC Tryz.prog an_zn6ys (Tryz.f168.body.getD .skip) = some ac_zn6ys := by kernel_rfl
theorem dst_zn6ys : ac_zn6ys.dstOK Tryz.f168.ntmps (fun i => decide (i < Tryz.f168.ntmps)) = true := by kernel_rfl

def an_zjcnn : Ann := ⟨[(0, [0, 1, 2, 3, 11]), (1, [0, 2, 14]), (2, [0, 2, 6]), (3, [0, 2, 6, 25]), (4, [0, 2]), (5, [0, 1, 2, 3, 7]), (6, [0, 1, 2, 3, 7, 33]), (7, [0, 1, 2, 3, 7, 8]), (8, [0, 1, 2, 3, 7, 42]), (9, [0, 1, 2, 3]), (10, [])], [], []⟩
def ac_zjcnn : AC := (.seq (.seq (.region [.mk none (some 9) (.load none (.tmp 1)), .mk none (some 10) (.len (.tmp 9) true), .mk none (some 11) (.bin .eql (.tmp 10) (.const (.int .i64 0)))] (some [0, 1, 2, 3, 11])) (.cond (.tmp 11) (.seq (.block 0 (.loop (.seq (.seq (.region [.mk none (some 12) (.load none (.tmp 2)), .mk none (some 13) (.len (.tmp 12) true), .mk none (some 14) (.bin .gtr (.tmp 13) (.const (.int .i64 0)))] (some [0, 2, 14])) (.cond (.tmp 14) .skip (.exit 0))) (.block 1 (.seq (.region [.mk none (some 16) (.load none (.tmp 2)), .mk none (some 17) (.call 150 [.tmp 16]), .mk none (some 15) (.mv (.tmp 17)), .mk none (some 18) (.extract (.tmp 15) 0), .mk none (some 19) (.extract (.tmp 15) 1), .mk none (some 5) (.mv (.tmp 18)), .mk none (some 6) (.mv (.tmp 19))] (some [0, 2, 6])) (.seq (.seq (.region [.mk none (some 20) (.mv (.tmp 0)), .mk none (some 21) (.load none (.tmp 2)), .mk none (some 22) (.mv (.tmp 6)), .mk none (some 23) (.slcS (.tmp 21) none (some (.tmp 22))), .mk none (some 24) (.callv (.tmp 20) [.tmp 23]), .mk none (some 25) (.un .not (.tmp 24))] (some [0, 2, 6, 25])) (.cond (.tmp 25) .ret .skip)) (.region [.mk none (some 26) (.load none (.tmp 2)), .mk none (some 27) (.mv (.tmp 6)), .mk none (some 28) (.slcS (.tmp 26) (some (.tmp 27)) none), .mk none none (.store 1 (.tmp 2) (.tmp 28))] (some [0, 2])))))))) .ret) .skip)) (.seq (.block 2 (.loop (.block 3 (.seq (.region [.mk none (some 29) (.load none (.tmp 2)), .mk none (some 30) (.load none (.tmp 1)), .mk none (some 31) (.call 151 [.tmp 29, .tmp 30]), .mk none (some 7) (.mv (.tmp 31))] (some [0, 1, 2, 3, 7])) (.seq (.seq (.region [.mk none (some 32) (.mv (.tmp 7)), .mk none (some 33) (.bin .lss (.tmp 32) (.const (.int .i64 0)))] (some [0, 1, 2, 3, 7, 33])) (.cond (.tmp 33) (.exit 2) .skip)) (.seq (.region [.mk none (some 34) (.load none (.tmp 2)), .mk none (some 35) (.mv (.tmp 7)), .mk none (some 36) (.load none (.tmp 3)), .mk none (some 37) (.bin .add (.tmp 35) (.tmp 36)), .mk none (some 38) (.slcS (.tmp 34) none (some (.tmp 37))), .mk none (some 8) (.mv (.tmp 38))] (some [0, 1, 2, 3, 7, 8])) (.seq (.seq (.region [.mk none (some 39) (.mv (.tmp 0)), .mk none (some 40) (.mv (.tmp 8)), .mk none (some 41) (.callv (.tmp 39) [.tmp 40]), .mk none (some 42) (.un .not (.tmp 41))] (some [0, 1, 2, 3, 7, 42])) (.cond (.tmp 42) .ret .skip)) (.region [.mk none (some 43) (.load none (.tmp 2)), .mk none (some 44) (.mv (.tmp 7)), .mk none (some 45) (.load none (.tmp 1)), .mk none (some 46) (.len (.tmp 45) true), .mk none (some 47) (.bin .add (.tmp 44) (.tmp 46)), .mk none (some 48) (.slcS (.tmp 43) (some (.tmp 47)) none), .mk none none (.store 1 (.tmp 2) (.tmp 48))] (some [0, 1, 2, 3]))))))))) (.region [.mk none (some 49) (.mv (.tmp 0)), .mk none (some 50) (.load none (.tmp 2)), .mk none (some 51) (.callv (.tmp 49) [.tmp 50])] (some []))))
theorem ok_zjcnn : compC Tryz.prog an_zjcnn (Tryz.f149.body.getD .skip) = some ac_zjcnn := by kernel_rfl
theorem dst_zjcnn : ac_zjcnn.dstOK Tryz.f149.ntmps (fun i => decide (i < Tryz.f149.ntmps)) = true := by kernel_rfl

def an_z70r5 : Ann := ⟨[(0, [3, 4, 5]), (1, [6])], [], []⟩
def ac_z70r5 : AC := (.seq (.region [.mk none (some 3) (.box 9 (.tmp 0)), .mk none (some 4) (.box 9 (.tmp 1)), .mk none (some 5) (.box 3 (.tmp 2)), .mk none (some 6) (.mv (.const .nilFunc))] (some [3, 4, 5])) (.seq (.region [.mk none (some 7) (.mkfn 149 [.tmp 4, .tmp 3, .tmp 5]), .mk none (some 6) (.mv (.tmp 7))] (some [6])) .ret))
theorem ok_z70r5 : compC Tryz.prog an_z70r5 (Tryz.f119.body.getD .skip) = some ac_z70r5 := by kernel_rfl
theorem dst_z70r5 : ac_z70r5.dstOK Tryz.f119.ntmps (fun i => decide (i < Tryz.f119.ntmps)) = true := by kernel_rfl

def an_zln7r : Ann := ⟨[(0, [0, 1]), (1, [4])], [], []⟩
def ac_zln7r : AC := (.seq (.region [.mk none (some 4) (.mv (.const .nilFunc))] (some [0, 1])) (.seq (.region [.mk none (some 5) (.mv (.tmp 0)), .mk none (some 6) (.mv (.tmp 1)), .mk none (some 7) (.call 119 [.tmp 5, .tmp 6, .const (.int .i64 0)]), .mk none (some 4) (.mv (.tmp 7))] (some [4])) .ret))
theorem ok_zln7r : compC Tryz.prog an_zln7r (Tryz.f88.body.getD .skip) = some ac_zln7r := by kernel_rfl
theorem dst_zln7r : ac_zln7r.dstOK Tryz.f88.ntmps (fun i => decide (i < Tryz.f88.ntmps)) = true := by kernel_rfl

def an_zmldt : Ann := ⟨[(0, [0, 2, 3]), (1, [0, 2, 3, 6]), (2, [2]), (3, [2, 3, 8]), (5, [2, 12]), (6, []), (7, [2])], [], [(9, [2])]⟩
def ac_zmldt : AC := (.seq (.region [.mk none (some 2) (.alloc 4 [.pd (.raw (.bool false))])] (some [0, 2, 3])) (.seq (.seq (.region [.mk none (some 4) (.mv (.tmp 0)), .mk none (some 5) (.len (.tmp 4) true), .mk none (some 6) (.bin .gtr (.tmp 5) (.const (.int .i64 60)))] (some [0, 2, 3, 6])) (.cond (.tmp 6) (.seq (.region [.mk none none (.store 1 (.tmp 2) (.const (.bool false)))] (some [2])) .ret) .skip)) (.seq (.seq (.region [.mk none (some 7) (.mv (.tmp 0)), .mk none (some 8) (.call 88 [.tmp 7, .const (.string ⟨#[46]⟩)])] (some [2, 3, 8])) (.block 0 (.rangeF [2] 9 (some 3) (.tmp 8) (.block 1 (.seq (.region [.mk none (some 10) (.mv (.tmp 3)), .mk none (some 11) (.call 70 [.tmp 10]), .mk none (some 12) (.un .not (.tmp 11))] (some [2, 12])) (.cond (.tmp 12) (.seq (.region [.mk none none (.store 1 (.tmp 2) (.const (.bool false)))] (some [])) .ret) .skip)))))) (.seq (.region [.mk none none (.store 1 (.tmp 2) (.const (.bool true)))] (some [2])) .ret))))
theorem ok_zmldt : compC Tryz.prog an_zmldt (Tryz.f53.body.getD .skip) = some ac_zmldt := by kernel_rfl
theorem ret_zmldt (st : St) : resD Tryz.prog st Tryz.f53.results.toList = resA st [.cell 2 none] := resD_of (by kernel_rfl)
theorem dst_zmldt : ac_zmldt.dstOK Tryz.f53.ntmps (fun i => decide (i < Tryz.f53.ntmps)) = true := by kernel_rfl

def an_zgqff : Ann := ⟨[(0, [0, 1]), (1, [4, 5])], [], []⟩
def ac_zgqff : AC := (.seq (.region [.mk none (some 4) (.mv (.const (.string ⟨#[]⟩))), .mk none (some 5) (.mv (.const (.bool false)))] (some [0, 1])) (.seq (.region [.mk none (some 6) (.mv (.tmp 0)), .mk none (some 7) (.mv (.tmp 1)), .mk none (some 8) (.call 126 [.tmp 6, .tmp 7]), .mk none (some 9) (.extract (.tmp 8) 0), .mk none (some 10) (.extract (.tmp 8) 1), .mk none (some 4) (.mv (.tmp 9)), .mk none (some 5) (.mv (.tmp 10))] (some [4, 5])) .ret))
theorem ok_zgqff : compC Tryz.prog an_zgqff (Tryz.f98.body.getD .skip) = some ac_zgqff := by kernel_rfl
theorem dst_zgqff : ac_zgqff.dstOK Tryz.f98.ntmps (fun i => decide (i < Tryz.f98.ntmps)) = true := by kernel_rfl

def an_zd73u : Ann := ⟨[(0, [0, 1]), (1, [0, 1, 9]), (2, [4, 5]), (3, [4, 5])], [], []⟩
def ac_zd73u : AC := (.seq (.region [.mk none (some 4) (.mv (.const (.string ⟨#[]⟩))), .mk none (some 5) (.mv (.const (.bool false)))] (some [0, 1])) (.seq (.seq (.region [.mk none (some 6) (.mv (.tmp 0)), .mk none (some 7) (.mv (.tmp 1)), .mk none (some 8) (.call 154 [.tmp 6, .tmp 7]), .mk none (some 9) (.un .not (.tmp 8))] (some [0, 1, 9])) (.cond (.tmp 9) (.seq (.region [.mk none (some 10) (.mv (.tmp 0)), .mk none (some 4) (.mv (.tmp 10)), .mk none (some 5) (.mv (.const (.bool false)))] (some [4, 5])) .ret) .skip)) (.seq (.region [.mk none (some 11) (.mv (.tmp 0)), .mk none (some 12) (.mv (.tmp 1)), .mk none (some 13) (.len (.tmp 12) true), .mk none (some 14) (.slcS (.tmp 11) (some (.tmp 13)) none), .mk none (some 4) (.mv (.tmp 14)), .mk none (some 5) (.mv (.const (.bool true)))] (some [4, 5])) .ret)))
theorem ok_zd73u : compC Tryz.prog an_zd73u (Tryz.f126.body.getD .skip) = some ac_zd73u := by kernel_rfl
theorem dst_zd73u : ac_zd73u.dstOK Tryz.f126.ntmps (fun i => decide (i < Tryz.f126.ntmps)) = true := by kernel_rfl

def an_zntfc : Ann := ⟨[(0, [0, 1]), (1, [4])], [], []⟩
def ac_zntfc : AC := (.seq (.region [.mk none (some 4) (.mv (.const (.bool false)))] (some [0, 1])) (.seq (.region [.mk none (some 5) (.mv (.tmp 0)), .mk none (some 6) (.len (.tmp 5) true), .mk none (some 7) (.mv (.tmp 1)), .mk none (some 8) (.len (.tmp 7) true), .mk none (some 9) (.bin .geq (.tmp 6) (.tmp 8)), .mk none (some 10) (.mv (.tmp 9)), .mk (some (10, true)) (some 11) (.mv (.tmp 0)), .mk (some (10, true)) (some 12) (.mv (.tmp 1)), .mk (some (10, true)) (some 13) (.len (.tmp 12) true), .mk (some (10, true)) (some 14) (.slcS (.tmp 11) none (some (.tmp 13))), .mk (some (10, true)) (some 15) (.mv (.tmp 1)), .mk (some (10, true)) (some 16) (.bin .eql (.tmp 14) (.tmp 15)), .mk none (some 17) (.pick (.tmp 10) (.tmp 16) (.const (.bool false))), .mk none (some 4) (.mv (.tmp 17))] (some [4])) .ret))
theorem ok_zntfc : compC Tryz.prog an_zntfc (Tryz.f154.body.getD .skip) = some ac_zntfc := by kernel_rfl
theorem dst_zntfc : ac_zntfc.dstOK Tryz.f154.ntmps (fun i => decide (i < Tryz.f154.ntmps)) = true := by kernel_rfl

def an_zc2tl : Ann := ⟨[(0, [0, 1]), (1, [4])], [], []⟩
def ac_zc2tl : AC := (.seq (.region [.mk none (some 4) (.mv (.const (.bool false)))] (some [0, 1])) (.seq (.region [.mk none (some 5) (.mv (.tmp 0)), .mk none (some 6) (.mv (.tmp 1)), .mk none (some 7) (.call 154 [.tmp 5, .tmp 6]), .mk none (some 4) (.mv (.tmp 7))] (some [4])) .ret))
theorem ok_zc2tl : compC Tryz.prog an_zc2tl (Tryz.f177.body.getD .skip) = some ac_zc2tl := by kernel_rfl
theorem dst_zc2tl : ac_zc2tl.dstOK Tryz.f177.ntmps (fun i => decide (i < Tryz.f177.ntmps)) = true := by kernel_rfl

def an_zq3h5 : Ann := ⟨[(0, [0, 1]), (1, [4])], [], []⟩
def ac_zq3h5 : AC := (.seq (.region [.mk none (some 4) (.mv (.const (.bool false)))] (some [0, 1])) (.seq (.region [.mk none (some 5) (.mv (.tmp 0)), .mk none (some 6) (.mv (.tmp 1)), .mk none (some 7) (.call 186 [.tmp 5, .tmp 6]), .mk none (some 4) (.mv (.tmp 7))] (some [4])) .ret))
theorem ok_zq3h5 : compC Tryz.prog an_zq3h5 (Tryz.f178.body.getD .skip) = some ac_zq3h5 := by kernel_rfl
theorem dst_zq3h5 : ac_zq3h5.dstOK Tryz.f178.ntmps (fun i => decide (i < Tryz.f178.ntmps)) = true := by kernel_rfl

def an_z30tk : Ann := ⟨[(0, [0, 1]), (1, [4])], [], []⟩
def ac_z30tk : AC := (.seq (.region [.mk none (some 4) (.mv (.const (.bool false)))] (some [0, 1])) (.seq (.region [.mk none (some 5) (.mv (.tmp 0)), .mk none (some 6) (.len (.tmp 5) true), .mk none (some 7) (.mv (.tmp 1)), .mk none (some 8) (.len (.tmp 7) true), .mk none (some 9) (.bin .geq (.tmp 6) (.tmp 8)), .mk none (some 10) (.mv (.tmp 9)), .mk (some (10, true)) (some 11) (.mv (.tmp 0)), .mk (some (10, true)) (some 12) (.mv (.tmp 0)), .mk (some (10, true)) (some 13) (.len (.tmp 12) true), .mk (some (10, true)) (some 14) (.mv (.tmp 1)), .mk (some (10, true)) (some 15) (.len (.tmp 14) true), .mk (some (10, true)) (some 16) (.bin .sub (.tmp 13) (.tmp 15)), .mk (some (10, true)) (some 17) (.slcS (.tmp 11) (some (.tmp 16)) none), .mk (some (10, true)) (some 18) (.mv (.tmp 1)), .mk (some (10, true)) (some 19) (.bin .eql (.tmp 17) (.tmp 18)), .mk none (some 20) (.pick (.tmp 10) (.tmp 19) (.const (.bool false))), .mk none (some 4) (.mv (.tmp 20))] (some [4])) .ret))
theorem ok_z30tk : compC Tryz.prog an_z30tk (Tryz.f186.body.getD .skip) = some ac_z30tk := by kernel_rfl
theorem dst_z30tk : ac_z30tk.dstOK Tryz.f186.ntmps (fun i => decide (i < Tryz.f186.ntmps)) = true := by kernel_rfl

def an_z2osy : Ann := ⟨[(0, [0]), (1, [0, 3, 4]), (2, [2])], [], []⟩
def ac_z2osy : AC := (.seq (.region [.mk none (some 2) (.mv (.const (.bool false)))] (some [0])) (.seq (.region [.mk none (some 6) (.mv (.tmp 0)), .mk none (some 7) (.call 98 [.tmp 6, .const (.string ⟨#[42, 46]⟩)]), .mk none (some 5) (.mv (.tmp 7)), .mk none (some 8) (.extract (.tmp 5) 0), .mk none (some 9) (.extract (.tmp 5) 1), .mk none (some 3) (.mv (.tmp 8)), .mk none (some 4) (.mv (.tmp 9))] (some [0, 3, 4])) (.seq (.region [.mk none (some 10) (.mv (.tmp 0)), .mk none (some 11) (.bin .eql (.tmp 10) (.const (.string ⟨#[]⟩))), .mk none (some 12) (.mv (.tmp 11)), .mk (some (12, false)) (some 13) (.mv (.tmp 0)), .mk (some (12, false)) (some 14) (.len (.tmp 13) true), .mk (some (12, false)) (some 15) (.bin .leq (.tmp 14) (.const (.int .i64 60))), .mk (some (12, false)) (some 16) (.mv (.tmp 15)), .mk (some (16, true)) (some 17) (.mv (.tmp 3)), .mk (some (16, true)) (some 18) (.call 53 [.tmp 17]), .mk (some (12, false)) (some 19) (.pick (.tmp 16) (.tmp 18) (.const (.bool false))), .mk (some (12, false)) (some 20) (.mv (.tmp 19)), .mk (some (20, true)) (some 21) (.mv (.tmp 4)), .mk (some (20, true)) (some 22) (.mv (.tmp 21)), .mk (some (22, false)) (some 23) (.mv (.tmp 3)), .mk (some (22, false)) (some 24) (.mv (.tmp 0)), .mk (some (22, false)) (some 25) (.bin .eql (.tmp 23) (.tmp 24)), .mk (some (20, true)) (some 26) (.pick (.tmp 22) (.const (.bool true)) (.tmp 25)), .mk (some (12, false)) (some 27) (.pick (.tmp 20) (.tmp 26) (.const (.bool false))), .mk none (some 28) (.pick (.tmp 12) (.const (.bool true)) (.tmp 27)), .mk none (some 2) (.mv (.tmp 28))] (some [2])) .ret)))
theorem ok_z2osy : compC Tryz.prog an_z2osy (Tryz.f62.body.getD .skip) = some ac_z2osy := by kernel_rfl
theorem dst_z2osy : ac_z2osy.dstOK Tryz.f62.ntmps (fun i => decide (i < Tryz.f62.ntmps)) = true := by kernel_rfl

def an_z6j2 : Ann := ⟨[(0, [0]), (1, [0, 6]), (2, [0, 6, 7, 8]), (3, [0, 4, 6]), (4, [0, 6, 23]), (5, [2]), (6, [2])], [], []⟩
def ac_z6j2 : AC := (.seq (.region [.mk none (some 2) (.mv (.const (.bool false)))] (some [0])) (.seq (.seq (.region [.mk none (some 5) (.mv (.tmp 0)), .mk none (some 6) (.srange (.tmp 5))] (some [0, 6])) (.block 0 (.loop (.seq (.region [.mk none (some 7) (.snext (.tmp 6)), .mk none (some 8) (.extract (.tmp 7) 0)] (some [0, 6, 7, 8])) (.seq (.cond (.tmp 8) .skip (.exit 0)) (.block 1 (.seq (.region [.mk none (some 9) (.extract (.tmp 7) 2), .mk none (some 4) (.mv (.tmp 9))] (some [0, 4, 6])) (.seq (.region [.mk none (some 10) (.mv (.tmp 4)), .mk none (some 11) (.bin .lss (.tmp 10) (.const (.int .i32 33))), .mk none (some 12) (.mv (.tmp 11)), .mk (some (12, false)) (some 13) (.mv (.tmp 4)), .mk (some (12, false)) (some 14) (.bin .gtr (.tmp 13) (.const (.int .i32 126))), .mk none (some 15) (.pick (.tmp 12) (.const (.bool true)) (.tmp 14)), .mk none (some 16) (.mv (.tmp 15)), .mk (some (16, false)) (some 17) (.mv (.tmp 4)), .mk (some (16, false)) (some 18) (.bin .eql (.tmp 17) (.const (.int .i32 63))), .mk none (some 19) (.pick (.tmp 16) (.const (.bool true)) (.tmp 18)), .mk none (some 20) (.mv (.tmp 19)), .mk (some (20, false)) (some 21) (.mv (.tmp 4)), .mk (some (20, false)) (some 22) (.bin .eql (.tmp 21) (.const (.int .i32 35))), .mk none (some 23) (.pick (.tmp 20) (.const (.bool true)) (.tmp 22))] (some [0, 6, 23])) (.cond (.tmp 23) (.seq (.region [.mk none (some 2) (.mv (.const (.bool false)))] (some [2])) .ret) .skip))))))))) (.seq (.region [.mk none (some 24) (.mv (.tmp 0)), .mk none (some 25) (.call 177 [.tmp 24, .const (.string ⟨#[47]⟩)]), .mk none (some 26) (.mv (.tmp 25)), .mk (some (26, true)) (some 27) (.mv (.tmp 0)), .mk (some (26, true)) (some 28) (.len (.tmp 27) true), .mk (some (26, true)) (some 29) (.bin .leq (.tmp 28) (.const (.int .i64 60))), .mk none (some 30) (.pick (.tmp 26) (.tmp 29) (.const (.bool false))), .mk none (some 2) (.mv (.tmp 30))] (some [2])) .ret)))
theorem ok_z6j2 : compC Tryz.prog an_z6j2 (Tryz.f158.body.getD .skip) = some ac_z6j2 := by kernel_rfl
theorem dst_z6j2 : ac_z6j2.dstOK Tryz.f158.ntmps (fun i => decide (i < Tryz.f158.ntmps)) = true := by kernel_rfl

def an_zgeto : Ann := ⟨[(0, [0]), (1, [2])], [], []⟩
def ac_zgeto : AC := (.seq (.region [.mk none (some 2) (.mv (.const (.bool false)))] (some [0])) (.seq (.region [.mk none (some 3) (.mv (.tmp 0)), .mk none (some 4) (.call 158 [.tmp 3]), .mk none (some 5) (.mv (.tmp 4)), .mk (some (5, true)) (some 6) (.mv (.tmp 0)), .mk (some (5, true)) (some 7) (.bin .eql (.tmp 6) (.const (.string ⟨#[47]⟩))), .mk (some (5, true)) (some 8) (.mv (.tmp 7)), .mk (some (8, false)) (some 9) (.mv (.tmp 0)), .mk (some (8, false)) (some 10) (.call 178 [.tmp 9, .const (.string ⟨#[47]⟩)]), .mk (some (8, false)) (some 11) (.un .not (.tmp 10)), .mk (some (5, true)) (some 12) (.pick (.tmp 8) (.const (.bool true)) (.tmp 11)), .mk none (some 13) (.pick (.tmp 5) (.tmp 12) (.const (.bool false))), .mk none (some 2) (.mv (.tmp 13))] (some [2])) .ret))
theorem ok_zgeto : compC Tryz.prog an_zgeto (Tryz.f159.body.getD .skip) = some ac_zgeto := by kernel_rfl
theorem dst_zgeto : ac_zgeto.dstOK Tryz.f159.ntmps (fun i => decide (i < Tryz.f159.ntmps)) = true := by kernel_rfl

def an_z2uwa : Ann := ⟨[(0, [1]), (1, [2])], [], []⟩
def ac_z2uwa : AC := (.seq (.region [.mk none (some 1) (.box 60 (.tmp 0)), .mk none (some 2) (.mv (.const (.bool false)))] (some [1])) (.seq (.region [.mk none (some 3) (.fieldA 0 (.tmp 1)), .mk none (some 4) (.load none (.tmp 3)), .mk none (some 5) (.bin .eql (.tmp 4) (.const (.int .i64 1))), .mk none (some 6) (.mv (.tmp 5)), .mk (some (6, true)) (some 7) (.fieldA 1 (.tmp 1)), .mk (some (6, true)) (some 8) (.load none (.tmp 7)), .mk (some (6, true)) (some 9) (.call 158 [.tmp 8]), .mk none (some 10) (.pick (.tmp 6) (.tmp 9) (.const (.bool false))), .mk none (some 11) (.mv (.tmp 10)), .mk (some (11, false)) (some 12) (.fieldA 0 (.tmp 1)), .mk (some (11, false)) (some 13) (.load none (.tmp 12)), .mk (some (11, false)) (some 14) (.bin .eql (.tmp 13) (.const (.int .i64 2))), .mk (some (11, false)) (some 15) (.mv (.tmp 14)), .mk (some (15, true)) (some 16) (.fieldA 1 (.tmp 1)), .mk (some (15, true)) (some 17) (.load none (.tmp 16)), .mk (some (15, true)) (some 18) (.call 159 [.tmp 17]), .mk (some (11, false)) (some 19) (.pick (.tmp 15) (.tmp 18) (.const (.bool false))), .mk none (some 20) (.pick (.tmp 11) (.const (.bool true)) (.tmp 19)), .mk none (some 2) (.mv (.tmp 20))] (some [2])) .ret))
theorem ok_z2uwa : compC Tryz.prog an_z2uwa (Tryz.f133.body.getD .skip) = some ac_z2uwa := by kernel_rfl
theorem dst_z2uwa : ac_z2uwa.dstOK Tryz.f133.ntmps (fun i => decide (i < Tryz.f133.ntmps)) = true := by kernel_rfl

def an_ziqey : Ann := ⟨[(0, [0]), (1, [2])], [], []⟩
def ac_ziqey : AC := (.seq (.region [.mk none (some 2) (.mv (.const (.bool false)))] (some [0])) (.seq (.region [.mk none (some 3) (.mv (.tmp 0)), .mk none (some 4) (.bin .eql (.tmp 3) (.const (.string ⟨#[]⟩))), .mk none (some 5) (.mv (.tmp 4)), .mk (some (5, false)) (some 6) (.mv (.tmp 0)), .mk (some (5, false)) (some 7) (.call 70 [.tmp 6]), .mk none (some 8) (.pick (.tmp 5) (.const (.bool true)) (.tmp 7)), .mk none (some 2) (.mv (.tmp 8))] (some [2])) .ret))
theorem ok_ziqey : compC Tryz.prog an_ziqey (Tryz.f83.body.getD .skip) = some ac_ziqey := by kernel_rfl
theorem dst_ziqey : ac_ziqey.dstOK Tryz.f83.ntmps (fun i => decide (i < Tryz.f83.ntmps)) = true := by kernel_rfl

def an_z2iq3 : Ann := ⟨[(0, [0]), (1, [0, 5, 6, 7]), (2, [0, 5, 6, 7, 8]), (3, [0, 3, 4, 5, 6, 7]), (4, [0, 5, 6, 7, 36]), (5, [2]), (6, [0, 5, 6, 7]), (7, [2])], [(4, ([0, 1, 3, 7, 15, 31, 63, 127, 255, 511, 1023, 2047, 4095, 8191, 16383, 16383, 49151, 131071, 262143, 524287, 16383, 1064959, 4194303, 8388607, 16777215], .take 0 (.take 1 (.alts (.cons 2 true (.take 3 (.take 4 (.take 5 (.take 6 (.alts (.cons 7 true (.take 8 (.take 9 (.take 10 (.take 11 (.take 12 (.take 13 (.take 14 (.take 15 (.take 16 (.take 17 (.take 18 (.take 19 (.take 20 (.take 21 (.take 22 (.take 23 (.take 24 (.done)))))))))))))))))) (.nil))))))) (.nil))))))], []⟩
def ac_z2iq3 : AC := (.seq (.region [.mk none (some 2) (.mv (.const (.bool false)))] (some [0])) (.seq (.seq (.region [.mk none (some 5) (.mv (.tmp 0)), .mk none (some 6) (.len (.tmp 5) false), .mk none (some 7) (.mv (.const (.int .i64 0)))] (some [0, 5, 6, 7])) (.block 0 (.loop (.seq (.region [.mk none (some 8) (.bin .lss (.tmp 7) (.tmp 6))] (some [0, 5, 6, 7, 8])) (.seq (.cond (.tmp 8) .skip (.exit 0)) (.seq (.block 1 (.seq (.region [.mk none (some 9) (.mv (.tmp 7)), .mk none (some 10) (.idxA 2 (.tmp 5) (.tmp 7)), .mk none (some 11) (.load (some 2) (.tmp 10)), .mk none (some 4) (.alloc 81 [.pd (.raw (.string ⟨#[]⟩)), .pd (.raw (.string ⟨#[]⟩))]), .mk none (some 3) (.mv (.tmp 9)), .mk none none (.store 2 (.tmp 4) (.tmp 11))] (some [0, 3, 4, 5, 6, 7])) (.seq (.draw [.mk none (some 12) (.fieldA 0 (.tmp 4)), .mk none (some 13) (.load none (.tmp 12)), .mk none (some 14) (.call 53 [.tmp 13]), .mk none (some 15) (.un .not (.tmp 14)), .mk none (some 16) (.mv (.tmp 15)), .mk (some (16, false)) (some 17) (.fieldA 1 (.tmp 4)), .mk (some (16, false)) (some 18) (.load none (.tmp 17)), .mk (some (16, false)) (some 19) (.call 83 [.tmp 18]), .mk (some (16, false)) (some 20) (.un .not (.tmp 19)), .mk none (some 21) (.pick (.tmp 16) (.const (.bool true)) (.tmp 20)), .mk none (some 22) (.mv (.tmp 21)), .mk (some (22, false)) (some 23) (.mv (.tmp 3)), .mk (some (22, false)) (some 24) (.bin .gtr (.tmp 23) (.const (.int .i64 0))), .mk (some (22, false)) (some 25) (.mv (.tmp 24)), .mk (some (25, true)) (some 26) (.mv (.tmp 0)), .mk (some (25, true)) (some 27) (.mv (.tmp 3)), .mk (some (25, true)) (some 28) (.bin .sub (.tmp 27) (.const (.int .i64 1))), .mk (some (25, true)) (some 29) (.idxA 2 (.tmp 26) (.tmp 28)), .mk (some (25, true)) (some 30) (.fieldA 0 (.tmp 29)), .mk (some (25, true)) (some 31) (.load none (.tmp 30)), .mk (some (25, true)) (some 32) (.fieldA 0 (.tmp 4)), .mk (some (25, true)) (some 33) (.load none (.tmp 32)), .mk (some (25, true)) (some 34) (.bin .geq (.tmp 31) (.tmp 33)), .mk (some (22, false)) (some 35) (.pick (.tmp 25) (.tmp 34) (.const (.bool false))), .mk none (some 36) (.pick (.tmp 22) (.const (.bool true)) (.tmp 35))] [0, 1, 3, 7, 15, 31, 63, 127, 255, 511, 1023, 2047, 4095, 8191, 16383, 16383, 49151, 131071, 262143, 524287, 16383, 1064959, 4194303, 8388607, 16777215] (.take 0 (.take 1 (.alts (.cons 2 true (.take 3 (.take 4 (.take 5 (.take 6 (.alts (.cons 7 true (.take 8 (.take 9 (.take 10 (.take 11 (.take 12 (.take 13 (.take 14 (.take 15 (.take 16 (.take 17 (.take 18 (.take 19 (.take 20 (.take 21 (.take 22 (.take 23 (.take 24 .done))))))))))))))))) .nil)))))) .nil)))) (some [0, 5, 6, 7, 36])) (.cond (.tmp 36) (.seq (.region [.mk none (some 2) (.mv (.const (.bool false)))] (some [2])) .ret) .skip)))) (.region [.mk none (some 37) (.bin .add (.tmp 7) (.const (.int .i64 1))), .mk none (some 7) (.mv (.tmp 37))] (some [0, 5, 6, 7])))))))) (.seq (.region [.mk none (some 38) (.mv (.tmp 0)), .mk none (some 39) (.len (.tmp 38) false), .mk none (some 40) (.bin .leq (.tmp 39) (.const (.int .i64 8))), .mk none (some 2) (.mv (.tmp 40))] (some [2])) .ret)))
theorem ok_z2iq3 : compC Tryz.prog an_z2iq3 (Tryz.f46.body.getD .skip) = some ac_z2iq3 := by kernel_rfl
theorem dst_z2iq3 : ac_z2iq3.dstOK Tryz.f46.ntmps (fun i => decide (i < Tryz.f46.ntmps)) = true := by kernel_rfl

def an_zr0tf : Ann := ⟨[(0, [0]), (1, [0, 5, 6, 7]), (2, [0, 5, 6, 7, 8]), (3, [0, 4, 5, 6, 7]), (4, [0, 5, 6, 7, 25]), (5, [2]), (6, [0, 5, 6, 7]), (7, [2])], [], []⟩
def ac_zr0tf : AC := (.seq (.region [.mk none (some 2) (.mv (.const (.bool false)))] (some [0])) (.seq (.seq (.region [.mk none (some 5) (.mv (.tmp 0)), .mk none (some 6) (.len (.tmp 5) false), .mk none (some 7) (.mv (.const (.int .i64 0)))] (some [0, 5, 6, 7])) (.block 0 (.loop (.seq (.region [.mk none (some 8) (.bin .lss (.tmp 7) (.tmp 6))] (some [0, 5, 6, 7, 8])) (.seq (.cond (.tmp 8) .skip (.exit 0)) (.seq (.block 1 (.seq (.region [.mk none (some 9) (.idxA 2 (.tmp 5) (.tmp 7)), .mk none (some 10) (.load (some 2) (.tmp 9)), .mk none (some 4) (.alloc 81 [.pd (.raw (.string ⟨#[]⟩)), .pd (.raw (.string ⟨#[]⟩))]), .mk none none (.store 2 (.tmp 4) (.tmp 10))] (some [0, 4, 5, 6, 7])) (.seq (.region [.mk none (some 11) (.fieldA 0 (.tmp 4)), .mk none (some 12) (.load none (.tmp 11)), .mk none (some 13) (.bin .eql (.tmp 12) (.const (.string ⟨#[]⟩))), .mk none (some 14) (.mv (.tmp 13)), .mk (some (14, false)) (some 15) (.fieldA 0 (.tmp 4)), .mk (some (14, false)) (some 16) (.load none (.tmp 15)), .mk (some (14, false)) (some 17) (.len (.tmp 16) true), .mk (some (14, false)) (some 18) (.bin .gtr (.tmp 17) (.const (.int .i64 40))), .mk none (some 19) (.pick (.tmp 14) (.const (.bool true)) (.tmp 18)), .mk none (some 20) (.mv (.tmp 19)), .mk (some (20, false)) (some 21) (.fieldA 1 (.tmp 4)), .mk (some (20, false)) (some 22) (.load none (.tmp 21)), .mk (some (20, false)) (some 23) (.len (.tmp 22) true), .mk (some (20, false)) (some 24) (.bin .gtr (.tmp 23) (.const (.int .i64 40))), .mk none (some 25) (.pick (.tmp 20) (.const (.bool true)) (.tmp 24))] (some [0, 5, 6, 7, 25])) (.cond (.tmp 25) (.seq (.region [.mk none (some 2) (.mv (.const (.bool false)))] (some [2])) .ret) .skip)))) (.region [.mk none (some 26) (.bin .add (.tmp 7) (.const (.int .i64 1))), .mk none (some 7) (.mv (.tmp 26))] (some [0, 5, 6, 7])))))))) (.seq (.region [.mk none (some 27) (.mv (.tmp 0)), .mk none (some 28) (.len (.tmp 27) false), .mk none (some 29) (.bin .leq (.tmp 28) (.const (.int .i64 20))), .mk none (some 2) (.mv (.tmp 29))] (some [2])) .ret)))
theorem ok_zr0tf : compC Tryz.prog an_zr0tf (Tryz.f138.body.getD .skip) = some ac_zr0tf := by kernel_rfl
theorem dst_zr0tf : ac_zr0tf.dstOK Tryz.f138.ntmps (fun i => decide (i < Tryz.f138.ntmps)) = true := by kernel_rfl

def an_zixxy : Ann := ⟨[(0, [0, 1]), (1, [4])], [], []⟩
def ac_zixxy : AC := (.seq (.region [.mk none (some 4) (.mv (.const (.int .i64 0)))] (some [0, 1])) (.seq (.region [.mk none (some 5) (.mv (.tmp 0)), .mk none (some 6) (.mv (.tmp 1)), .mk none (some 7) (.call 169 [.tmp 5, .tmp 6]), .mk none (some 4) (.mv (.tmp 7))] (some [4])) .ret))
theorem ok_zixxy : compC Tryz.prog an_zixxy (Tryz.f156.body.getD .skip) = some ac_zixxy := by kernel_rfl
theorem dst_zixxy : ac_zixxy.dstOK Tryz.f156.ntmps (fun i => decide (i < Tryz.f156.ntmps)) = true := by kernel_rfl

def an_zwtth : Ann := ⟨[(0, [0]), (1, [0, 6, 7]), (2, [0, 6, 7, 8]), (3, [0, 3, 6, 7]), (4, [0, 3, 4, 6, 7]), (5, [0, 6, 7, 39]), (6, [2]), (7, [0, 6, 7]), (8, [2])], [], []⟩
def ac_zwtth : AC := (.seq (.region [.mk none (some 2) (.mv (.const (.bool false)))] (some [0])) (.seq (.seq (.region [.mk none (some 5) (.mv (.tmp 0)), .mk none (some 6) (.len (.tmp 5) true), .mk none (some 7) (.mv (.const (.int .i64 0)))] (some [0, 6, 7])) (.block 0 (.loop (.seq (.region [.mk none (some 8) (.bin .lss (.tmp 7) (.tmp 6))] (some [0, 6, 7, 8])) (.seq (.cond (.tmp 8) .skip (.exit 0)) (.seq (.block 1 (.seq (.region [.mk none (some 9) (.mv (.tmp 7)), .mk none (some 3) (.mv (.tmp 9))] (some [0, 3, 6, 7])) (.seq (.region [.mk none (some 10) (.mv (.tmp 0)), .mk none (some 11) (.mv (.tmp 3)), .mk none (some 12) (.idxS (.tmp 10) (.tmp 11)), .mk none (some 13) (.bin .or (.tmp 12) (.const (.int .u8 32))), .mk none (some 4) (.mv (.tmp 13))] (some [0, 3, 4, 6, 7])) (.seq (.region [.mk none (some 14) (.mv (.tmp 4)), .mk none (some 15) (.bin .geq (.tmp 14) (.const (.int .u8 97))), .mk none (some 16) (.mv (.tmp 15)), .mk (some (16, true)) (some 17) (.mv (.tmp 4)), .mk (some (16, true)) (some 18) (.bin .leq (.tmp 17) (.const (.int .u8 122))), .mk none (some 19) (.pick (.tmp 16) (.tmp 18) (.const (.bool false))), .mk none (some 20) (.mv (.tmp 19)), .mk (some (20, false)) (some 21) (.mv (.tmp 0)), .mk (some (20, false)) (some 22) (.mv (.tmp 3)), .mk (some (20, false)) (some 23) (.idxS (.tmp 21) (.tmp 22)), .mk (some (20, false)) (some 24) (.bin .geq (.tmp 23) (.const (.int .u8 48))), .mk (some (20, false)) (some 25) (.mv (.tmp 24)), .mk (some (25, true)) (some 26) (.mv (.tmp 0)), .mk (some (25, true)) (some 27) (.mv (.tmp 3)), .mk (some (25, true)) (some 28) (.idxS (.tmp 26) (.tmp 27)), .mk (some (25, true)) (some 29) (.bin .leq (.tmp 28) (.const (.int .u8 57))), .mk (some (20, false)) (some 30) (.pick (.tmp 25) (.tmp 29) (.const (.bool false))), .mk none (some 31) (.pick (.tmp 20) (.const (.bool true)) (.tmp 30)), .mk none (some 32) (.mv (.tmp 31)), .mk (some (32, false)) (some 33) (.mv (.tmp 0)), .mk (some (32, false)) (some 34) (.mv (.tmp 3)), .mk (some (32, false)) (some 35) (.idxS (.tmp 33) (.tmp 34)), .mk (some (32, false)) (some 36) (.call 156 [.const (.string ⟨#[33, 35, 36, 37, 38, 39, 42, 43, 45, 46, 94, 95, 96, 124, 126]⟩), .tmp 35]), .mk (some (32, false)) (some 37) (.bin .geq (.tmp 36) (.const (.int .i64 0))), .mk none (some 38) (.pick (.tmp 32) (.const (.bool true)) (.tmp 37)), .mk none (some 39) (.un .not (.tmp 38))] (some [0, 6, 7, 39])) (.cond (.tmp 39) (.seq (.region [.mk none (some 2) (.mv (.const (.bool false)))] (some [2])) .ret) .skip))))) (.region [.mk none (some 40) (.bin .add (.tmp 7) (.const (.int .i64 1))), .mk none (some 7) (.mv (.tmp 40))] (some [0, 6, 7])))))))) (.seq (.region [.mk none (some 41) (.mv (.tmp 0)), .mk none (some 42) (.bin .neq (.tmp 41) (.const (.string ⟨#[]⟩))), .mk none (some 43) (.mv (.tmp 42)), .mk (some (43, true)) (some 44) (.mv (.tmp 0)), .mk (some (43, true)) (some 45) (.len (.tmp 44) true), .mk (some (43, true)) (some 46) (.bin .leq (.tmp 45) (.const (.int .i64 40))), .mk none (some 47) (.pick (.tmp 43) (.tmp 46) (.const (.bool false))), .mk none (some 2) (.mv (.tmp 47))] (some [2])) .ret)))
theorem ok_zwtth : compC Tryz.prog an_zwtth (Tryz.f131.body.getD .skip) = some ac_zwtth := by kernel_rfl
theorem dst_zwtth : ac_zwtth.dstOK Tryz.f131.ntmps (fun i => decide (i < Tryz.f131.ntmps)) = true := by kernel_rfl

def an_z4wze : Ann := ⟨[(0, [0]), (1, [0, 5, 6]), (2, [0, 5, 6, 7]), (3, [0, 3, 5, 6]), (4, [0, 5, 6, 18]), (5, [2]), (6, [0, 5, 6]), (7, [2])], [], []⟩
def ac_z4wze : AC := (.seq (.region [.mk none (some 2) (.mv (.const (.bool false)))] (some [0])) (.seq (.seq (.region [.mk none (some 4) (.mv (.tmp 0)), .mk none (some 5) (.len (.tmp 4) true), .mk none (some 6) (.mv (.const (.int .i64 0)))] (some [0, 5, 6])) (.block 0 (.loop (.seq (.region [.mk none (some 7) (.bin .lss (.tmp 6) (.tmp 5))] (some [0, 5, 6, 7])) (.seq (.cond (.tmp 7) .skip (.exit 0)) (.seq (.block 1 (.seq (.region [.mk none (some 8) (.mv (.tmp 6)), .mk none (some 3) (.mv (.tmp 8))] (some [0, 3, 5, 6])) (.seq (.region [.mk none (some 9) (.mv (.tmp 0)), .mk none (some 10) (.mv (.tmp 3)), .mk none (some 11) (.idxS (.tmp 9) (.tmp 10)), .mk none (some 12) (.bin .lss (.tmp 11) (.const (.int .u8 32))), .mk none (some 13) (.mv (.tmp 12)), .mk (some (13, false)) (some 14) (.mv (.tmp 0)), .mk (some (13, false)) (some 15) (.mv (.tmp 3)), .mk (some (13, false)) (some 16) (.idxS (.tmp 14) (.tmp 15)), .mk (some (13, false)) (some 17) (.bin .gtr (.tmp 16) (.const (.int .u8 126))), .mk none (some 18) (.pick (.tmp 13) (.const (.bool true)) (.tmp 17))] (some [0, 5, 6, 18])) (.cond (.tmp 18) (.seq (.region [.mk none (some 2) (.mv (.const (.bool false)))] (some [2])) .ret) .skip)))) (.region [.mk none (some 19) (.bin .add (.tmp 6) (.const (.int .i64 1))), .mk none (some 6) (.mv (.tmp 19))] (some [0, 5, 6])))))))) (.seq (.region [.mk none (some 20) (.mv (.tmp 0)), .mk none (some 21) (.len (.tmp 20) true), .mk none (some 22) (.bin .leq (.tmp 21) (.const (.int .i64 40))), .mk none (some 23) (.mv (.tmp 22)), .mk (some (23, true)) (some 24) (.mv (.tmp 0)), .mk (some (23, true)) (some 25) (.call 157 [.tmp 24, .const (.string ⟨#[32]⟩)]), .mk (some (23, true)) (some 26) (.mv (.tmp 0)), .mk (some (23, true)) (some 27) (.bin .eql (.tmp 25) (.tmp 26)), .mk none (some 28) (.pick (.tmp 23) (.tmp 27) (.const (.bool false))), .mk none (some 2) (.mv (.tmp 28))] (some [2])) .ret)))
theorem ok_z4wze : compC Tryz.prog an_z4wze (Tryz.f132.body.getD .skip) = some ac_z4wze := by kernel_rfl
theorem dst_z4wze : ac_z4wze.dstOK Tryz.f132.ntmps (fun i => decide (i < Tryz.f132.ntmps)) = true := by kernel_rfl

def an_zmas7 : Ann := ⟨[(0, [0, 1]), (1, [0, 1, 12]), (2, [4]), (3, [0, 1, 21]), (4, [4]), (5, [0, 1, 5, 6]), (6, [0, 1, 5, 34]), (7, [4]), (8, [4])], [(4, ([0, 0, 2, 7, 0, 16, 63, 127], .take 0 (.take 1 (.take 2 (.take 4 (.take 5 (.alts (.cons 3 false (.alts (.cons 6 true (.take 7 (.done)) (.nil))) (.nil)))))))))], []⟩
def ac_zmas7 : AC := (.seq (.region [.mk none (some 4) (.mv (.const (.string ⟨#[]⟩)))] (some [0, 1])) (.seq (.seq (.region [.mk none (some 7) (.mv (.tmp 0)), .mk none (some 8) (.bin .eql (.tmp 7) (.const (.string ⟨#[]⟩))), .mk none (some 9) (.mv (.tmp 8)), .mk (some (9, false)) (some 10) (.mv (.tmp 1)), .mk (some (9, false)) (some 11) (.bin .eql (.tmp 10) (.const (.string ⟨#[]⟩))), .mk none (some 12) (.pick (.tmp 9) (.const (.bool true)) (.tmp 11))] (some [0, 1, 12])) (.cond (.tmp 12) (.seq (.region [.mk none (some 13) (.mv (.tmp 0)), .mk none (some 4) (.mv (.tmp 13))] (some [4])) .ret) .skip)) (.seq (.seq (.region [.mk none (some 14) (.mv (.tmp 1)), .mk none (some 15) (.len (.tmp 14) true), .mk none (some 16) (.bin .eql (.tmp 15) (.const (.int .i64 1))), .mk none (some 17) (.mv (.tmp 16)), .mk (some (17, true)) (some 18) (.mv (.tmp 1)), .mk (some (17, true)) (some 19) (.idxS (.tmp 18) (.const (.int .i64 0))), .mk (some (17, true)) (some 20) (.bin .lss (.tmp 19) (.const (.int .u8 128))), .mk none (some 21) (.pick (.tmp 17) (.tmp 20) (.const (.bool false)))] (some [0, 1, 21])) (.cond (.tmp 21) (.seq (.draw [.mk none (some 22) (.mv (.tmp 0)), .mk none (some 23) (.mv (.tmp 1)), .mk none (some 24) (.idxS (.tmp 23) (.const (.int .i64 0))), .mk none (some 25) (.call 171 [.tmp 22, .tmp 24]), .mk none (some 26) (.mv (.tmp 1)), .mk none (some 27) (.idxS (.tmp 26) (.const (.int .i64 0))), .mk none (some 28) (.call 170 [.tmp 25, .tmp 27]), .mk none (some 4) (.mv (.tmp 28))] [0, 0, 2, 7, 0, 16, 63, 127] (.take 0 (.take 1 (.take 2 (.take 4 (.take 5 (.alts (.cons 3 false (.alts (.cons 6 true (.take 7 .done) .nil)) .nil))))))) (some [4])) .ret) .skip)) (.seq (.seq (.region [.mk none (some 30) (.mv (.tmp 1)), .mk none (some 31) (.call 172 [.tmp 30]), .mk none (some 29) (.mv (.tmp 31)), .mk none (some 32) (.extract (.tmp 29) 0), .mk none (some 33) (.extract (.tmp 29) 1), .mk none (some 5) (.alloc 198 [.pd (.raw (.bool false)), .pd (.raw (.bool false)), .pd (.raw (.bool false)), .pd (.raw (.bool false)), .pd (.raw (.bool false)), .pd (.raw (.bool false)), .pd (.raw (.bool false)), .pd (.raw (.bool false)), .pd (.raw (.bool false)), .pd (.raw (.bool false)), .pd (.raw (.bool false)), .pd (.raw (.bool false)), .pd (.raw (.bool false)), .pd (.raw (.bool false)), .pd (.raw (.bool false)), .pd (.raw (.bool false)), .pd (.raw (.bool false)), .pd (.raw (.bool false)), .pd (.raw (.bool false)), .pd (.raw (.bool false)), .pd (.raw (.bool false)), .pd (.raw (.bool false)), .pd (.raw (.bool false)), .pd (.raw (.bool false)), .pd (.raw (.bool false)), .pd (.raw (.bool false)), .pd (.raw (.bool false)), .pd (.raw (.bool false)), .pd (.raw (.bool false)), .pd (.raw (.bool false)), .pd (.raw (.bool false)), .pd (.raw (.bool false)), .pd (.raw (.bool false)), .pd (.raw (.bool false)), .pd (.raw (.bool false)), .pd (.raw (.bool false)), .pd (.raw (.bool false)), .pd (.raw (.bool false)), .pd (.raw (.bool false)), .pd (.raw (.bool false)), .pd (.raw (.bool false)), .pd (.raw (.bool false)), .pd (.raw (.bool false)), .pd (.raw (.bool false)), .pd (.raw (.bool false)), .pd (.raw (.bool false)), .pd (.raw (.bool false)), .pd (.raw (.bool false)), .pd (.raw (.bool false)), .pd (.raw (.bool false)), .pd (.raw (.bool false)), .pd (.raw (.bool false)), .pd (.raw (.bool false)), .pd (.raw (.bool false)), .pd (.raw (.bool false)), .pd (.raw (.bool false)), .pd (.raw (.bool false)), .pd (.raw (.bool false)), .pd (.raw (.bool false)), .pd (.raw (.bool false)), .pd (.raw (.bool false)), .pd (.raw (.bool false)), .pd (.raw (.bool false)), .pd (.raw (.bool false)), .pd (.raw (.bool false)), .pd (.raw (.bool false)), .pd (.raw (.bool false)), .pd (.raw (.bool false)), .pd (.raw (.bool false)), .pd (.raw (.bool false)), .pd (.raw (.bool false)), .pd (.raw (.bool false)), .pd (.raw (.bool false)), .pd (.raw (.bool false)), .pd (.raw (.bool false)), .pd (.raw (.bool false)), .pd (.raw (.bool false)), .pd (.raw (.bool false)), .pd (.raw (.bool false)), .pd (.raw (.bool false)), .pd (.raw (.bool false)), .pd (.raw (.bool false)), .pd (.raw (.bool false)), .pd (.raw (.bool false)), .pd (.raw (.bool false)), .pd (.raw (.bool false)), .pd (.raw (.bool false)), .pd (.raw (.bool false)), .pd (.raw (.bool false)), .pd (.raw (.bool false)), .pd (.raw (.bool false)), .pd (.raw (.bool false)), .pd (.raw (.bool false)), .pd (.raw (.bool false)), .pd (.raw (.bool false)), .pd (.raw (.bool false)), .pd (.raw (.bool false)), .pd (.raw (.bool false)), .pd (.raw (.bool false)), .pd (.raw (.bool false)), .pd (.raw (.bool false)), .pd (.raw (.bool false)), .pd (.raw (.bool false)), .pd (.raw (.bool false)), .pd (.raw (.bool false)), .pd (.raw (.bool false)), .pd (.raw (.bool false)), .pd (.raw (.bool false)), .pd (.raw (.bool false)), .pd (.raw (.bool false)), .pd (.raw (.bool false)), .pd (.raw (.bool false)), .pd (.raw (.bool false)), .pd (.raw (.bool false)), .pd (.raw (.bool false)), .pd (.raw (.bool false)), .pd (.raw (.bool false)), .pd (.raw (.bool false)), .pd (.raw (.bool false)), .pd (.raw (.bool false)), .pd (.raw (.bool false)), .pd (.raw (.bool false)), .pd (.raw (.bool false)), .pd (.raw (.bool false)), .pd (.raw (.bool false)), .pd (.raw (.bool false)), .pd (.raw (.bool false)), .pd (.raw (.bool false)), .pd (.raw (.bool false)), .pd (.raw (.bool false)), .pd (.raw (.bool false)), .pd (.raw (.bool false)), .pd (.raw (.bool false)), .pd (.raw (.bool false)), .pd (.raw (.bool false)), .pd (.raw (.bool false)), .pd (.raw (.bool false)), .pd (.raw (.bool false)), .pd (.raw (.bool false)), .pd (.raw (.bool false)), .pd (.raw (.bool false)), .pd (.raw (.bool false)), .pd (.raw (.bool false)), .pd (.raw (.bool false)), .pd (.raw (.bool false)), .pd (.raw (.bool false)), .pd (.raw (.bool false)), .pd (.raw (.bool false)), .pd (.raw (.bool false)), .pd (.raw (.bool false)), .pd (.raw (.bool false)), .pd (.raw (.bool false)), .pd (.raw (.bool false)), .pd (.raw (.bool false)), .pd (.raw (.bool false)), .pd (.raw (.bool false)), .pd (.raw (.bool false)), .pd (.raw (.bool false)), .pd (.raw (.bool false)), .pd (.raw (.bool false)), .pd (.raw (.bool false)), .pd (.raw (.bool false)), .pd (.raw (.bool false)), .pd (.raw (.bool false)), .pd (.raw (.bool false)), .pd (.raw (.bool false)), .pd (.raw (.bool false)), .pd (.raw (.bool false)), .pd (.raw (.bool false)), .pd (.raw (.bool false)), .pd (.raw (.bool false)), .pd (.raw (.bool false)), .pd (.raw (.bool false)), .pd (.raw (.bool false)), .pd (.raw (.bool false)), .pd (.raw (.bool false)), .pd (.raw (.bool false)), .pd (.raw (.bool false)), .pd (.raw (.bool false)), .pd (.raw (.bool false)), .pd (.raw (.bool false)), .pd (.raw (.bool false)), .pd (.raw (.bool false)), .pd (.raw (.bool false)), .pd (.raw (.bool false)), .pd (.raw (.bool false)), .pd (.raw (.bool false)), .pd (.raw (.bool false)), .pd (.raw (.bool false)), .pd (.raw (.bool false)), .pd (.raw (.bool false)), .pd (.raw (.bool false)), .pd (.raw (.bool false)), .pd (.raw (.bool false)), .pd (.raw (.bool false)), .pd (.raw (.bool false)), .pd (.raw (.bool false)), .pd (.raw (.bool false)), .pd (.raw (.bool false)), .pd (.raw (.bool false)), .pd (.raw (.bool false)), .pd (.raw (.bool false)), .pd (.raw (.bool false)), .pd (.raw (.bool false)), .pd (.raw (.bool false)), .pd (.raw (.bool false)), .pd (.raw (.bool false)), .pd (.raw (.bool false)), .pd (.raw (.bool false)), .pd (.raw (.bool false)), .pd (.raw (.bool false)), .pd (.raw (.bool false)), .pd (.raw (.bool false)), .pd (.raw (.bool false)), .pd (.raw (.bool false)), .pd (.raw (.bool false)), .pd (.raw (.bool false)), .pd (.raw (.bool false)), .pd (.raw (.bool false)), .pd (.raw (.bool false)), .pd (.raw (.bool false)), .pd (.raw (.bool false)), .pd (.raw (.bool false)), .pd (.raw (.bool false)), .pd (.raw (.bool false)), .pd (.raw (.bool false)), .pd (.raw (.bool false)), .pd (.raw (.bool false)), .pd (.raw (.bool false)), .pd (.raw (.bool false)), .pd (.raw (.bool false)), .pd (.raw (.bool false)), .pd (.raw (.bool false)), .pd (.raw (.bool false)), .pd (.raw (.bool false)), .pd (.raw (.bool false)), .pd (.raw (.bool false)), .pd (.raw (.bool false)), .pd (.raw (.bool false)), .pd (.raw (.bool false)), .pd (.raw (.bool false)), .pd (.raw (.bool false)), .pd (.raw (.bool false)), .pd (.raw (.bool false)), .pd (.raw (.bool false)), .pd (.raw (.bool false)), .pd (.raw (.bool false)), .pd (.raw (.bool false)), .pd (.raw (.bool false)), .pd (.raw (.bool false)), .pd (.raw (.bool false)), .pd (.raw (.bool false)), .pd (.raw (.bool false)), .pd (.raw (.bool false)), .pd (.raw (.bool false)), .pd (.raw (.bool false))]), .mk none none (.store 256 (.tmp 5) (.tmp 32)), .mk none (some 6) (.mv (.tmp 33))] (some [0, 1, 5, 6])) (.seq (.region [.mk none (some 34) (.mv (.tmp 6))] (some [0, 1, 5, 34])) (.cond (.tmp 34) (.seq (.region [.mk none (some 35) (.mv (.tmp 0)), .mk none (some 36) (.call 174 [.tmp 35, .tmp 5]), .mk none (some 37) (.call 173 [.tmp 36, .tmp 5]), .mk none (some 4) (.mv (.tmp 37))] (some [4])) .ret) .skip))) (.seq (.region [.mk none (some 38) (.mv (.tmp 0)), .mk none (some 39) (.mv (.tmp 1)), .mk none (some 40) (.call 176 [.tmp 38, .tmp 39]), .mk none (some 41) (.mv (.tmp 1)), .mk none (some 42) (.call 175 [.tmp 40, .tmp 41]), .mk none (some 4) (.mv (.tmp 42))] (some [4])) .ret)))))
theorem ok_zmas7 : compC Tryz.prog an_zmas7 (Tryz.f157.body.getD .skip) = some ac_zmas7 := by kernel_rfl
theorem dst_zmas7 : ac_zmas7.dstOK Tryz.f157.ntmps (fun i => decide (i < Tryz.f157.ntmps)) = true := by kernel_rfl

def an_zu0fc : Ann := ⟨[(0, [0, 1]), (1, [0, 1, 13]), (2, [0, 1]), (3, [4])], [], []⟩
def ac_zu0fc : AC := (.seq (.region [.mk none (some 4) (.mv (.const (.string ⟨#[]⟩)))] (some [0, 1])) (.seq (.block 0 (.loop (.seq (.seq (.region [.mk none (some 5) (.mv (.tmp 0)), .mk none (some 6) (.len (.tmp 5) true), .mk none (some 7) (.bin .gtr (.tmp 6) (.const (.int .i64 0))), .mk none (some 8) (.mv (.tmp 7)), .mk (some (8, true)) (some 9) (.mv (.tmp 0)), .mk (some (8, true)) (some 10) (.idxS (.tmp 9) (.const (.int .i64 0))), .mk (some (8, true)) (some 11) (.mv (.tmp 1)), .mk (some (8, true)) (some 12) (.bin .eql (.tmp 10) (.tmp 11)), .mk none (some 13) (.pick (.tmp 8) (.tmp 12) (.const (.bool false)))] (some [0, 1, 13])) (.cond (.tmp 13) .skip (.exit 0))) (.block 1 (.region [.mk none (some 14) (.mv (.tmp 0)), .mk none (some 15) (.slcS (.tmp 14) (some (.const (.int .i64 1))) none), .mk none (some 0) (.mv (.tmp 15))] (some [0, 1])))))) (.seq (.region [.mk none (some 16) (.mv (.tmp 0)), .mk none (some 4) (.mv (.tmp 16))] (some [4])) .ret)))
theorem ok_zu0fc : compC Tryz.prog an_zu0fc (Tryz.f170.body.getD .skip) = some ac_zu0fc := by kernel_rfl
theorem dst_zu0fc : ac_zu0fc.dstOK Tryz.f170.ntmps (fun i => decide (i < Tryz.f170.ntmps)) = true := by kernel_rfl

def an_zdteh : Ann := ⟨[(0, [0, 1]), (1, [0, 1, 16]), (2, [0, 1]), (3, [4])], [], []⟩
def ac_zdteh : AC := (.seq (.region [.mk none (some 4) (.mv (.const (.string ⟨#[]⟩)))] (some [0, 1])) (.seq (.block 0 (.loop (.seq (.seq (.region [.mk none (some 5) (.mv (.tmp 0)), .mk none (some 6) (.len (.tmp 5) true), .mk none (some 7) (.bin .gtr (.tmp 6) (.const (.int .i64 0))), .mk none (some 8) (.mv (.tmp 7)), .mk (some (8, true)) (some 9) (.mv (.tmp 0)), .mk (some (8, true)) (some 10) (.mv (.tmp 0)), .mk (some (8, true)) (some 11) (.len (.tmp 10) true), .mk (some (8, true)) (some 12) (.bin .sub (.tmp 11) (.const (.int .i64 1))), .mk (some (8, true)) (some 13) (.idxS (.tmp 9) (.tmp 12)), .mk (some (8, true)) (some 14) (.mv (.tmp 1)), .mk (some (8, true)) (some 15) (.bin .eql (.tmp 13) (.tmp 14)), .mk none (some 16) (.pick (.tmp 8) (.tmp 15) (.const (.bool false)))] (some [0, 1, 16])) (.cond (.tmp 16) .skip (.exit 0))) (.block 1 (.region [.mk none (some 17) (.mv (.tmp 0)), .mk none (some 18) (.mv (.tmp 0)), .mk none (some 19) (.len (.tmp 18) true), .mk none (some 20) (.bin .sub (.tmp 19) (.const (.int .i64 1))), .mk none (some 21) (.slcS (.tmp 17) none (some (.tmp 20))), .mk none (some 0) (.mv (.tmp 21))] (some [0, 1])))))) (.seq (.region [.mk none (some 22) (.mv (.tmp 0)), .mk none (some 4) (.mv (.tmp 22))] (some [4])) .ret)))
theorem ok_zdteh : compC Tryz.prog an_zdteh (Tryz.f171.body.getD .skip) = some ac_zdteh := by kernel_rfl
theorem dst_zdteh : ac_zdteh.dstOK Tryz.f171.ntmps (fun i => decide (i < Tryz.f171.ntmps)) = true := by kernel_rfl

def an_zrrew : Ann := ⟨[(0, [0, 1]), (1, [4])], [], []⟩
def ac_zrrew : AC := (.seq (.region [.mk none (some 4) (.mv (.const (.bool false)))] (some [0, 1])) (.seq (.region [.mk none (some 5) (.mv (.tmp 0)), .mk none (some 6) (.call 163 [.tmp 5]), .mk none (some 7) (.mv (.tmp 1)), .mk none (some 8) (.call 163 [.tmp 7]), .mk none (some 9) (.bin .eql (.tmp 6) (.tmp 8)), .mk none (some 4) (.mv (.tmp 9))] (some [4])) .ret))
theorem ok_zrrew : compC Tryz.prog an_zrrew (Tryz.f137.body.getD .skip) = some ac_zrrew := by kernel_rfl
theorem dst_zrrew : ac_zrrew.dstOK Tryz.f137.ntmps (fun i => decide (i < Tryz.f137.ntmps)) = true := by kernel_rfl

def an_zjt8m : Ann := ⟨[(0, [0]), (1, [0, 3]), (2, [2])], [], []⟩
def ac_zjt8m : AC := (.seq (.region [.mk none (some 2) (.mv (.const (.bool false)))] (some [0])) (.seq (.region [.mk none (some 3) (.mv (.func 160))] (some [0, 3])) (.seq (.region [.mk none (some 4) (.mv (.tmp 0)), .mk none (some 5) (.bin .neq (.tmp 4) (.const (.string ⟨#[]⟩))), .mk none (some 6) (.mv (.tmp 5)), .mk (some (6, true)) (some 7) (.mv (.tmp 0)), .mk (some (6, true)) (some 8) (.len (.tmp 7) true), .mk (some (6, true)) (some 9) (.bin .leq (.tmp 8) (.const (.int .i64 10))), .mk none (some 10) (.pick (.tmp 6) (.tmp 9) (.const (.bool false))), .mk none (some 11) (.mv (.tmp 10)), .mk (some (11, true)) (some 12) (.mv (.tmp 0)), .mk (some (11, true)) (some 13) (.mv (.tmp 3)), .mk (some (11, true)) (some 14) (.call 110 [.tmp 12, .tmp 13]), .mk (some (11, true)) (some 15) (.bin .lss (.tmp 14) (.const (.int .i64 0))), .mk none (some 16) (.pick (.tmp 11) (.tmp 15) (.const (.bool false))), .mk none (some 2) (.mv (.tmp 16))] (some [2])) .ret)))
theorem ok_zjt8m : compC Tryz.prog an_zjt8m (Tryz.f134.body.getD .skip) = some ac_zjt8m := by kernel_rfl
theorem dst_zjt8m : ac_zjt8m.dstOK Tryz.f134.ntmps (fun i => decide (i < Tryz.f134.ntmps)) = true := by kernel_rfl

def an_zluy0 : Ann := ⟨[(0, [0]), (1, [2])], [], []⟩
def ac_zluy0 : AC := (.seq (.region [.mk none (some 2) (.mv (.const (.bool false)))] (some [0])) (.seq (.region [.mk none (some 3) (.mv (.tmp 0)), .mk none (some 4) (.bin .lss (.tmp 3) (.const (.int .i32 65))), .mk none (some 5) (.mv (.tmp 4)), .mk (some (5, false)) (some 6) (.mv (.tmp 0)), .mk (some (5, false)) (some 7) (.bin .gtr (.tmp 6) (.const (.int .i32 90))), .mk none (some 8) (.pick (.tmp 5) (.const (.bool true)) (.tmp 7)), .mk none (some 2) (.mv (.tmp 8))] (some [2])) .ret))
theorem ok_zluy0 : compC Tryz.prog an_zluy0 (Tryz.f160.body.getD .skip) = some ac_zluy0 := by kernel_rfl
theorem dst_zluy0 : ac_zluy0.dstOK Tryz.f160.ntmps (fun i => decide (i < Tryz.f160.ntmps)) = true := by kernel_rfl

end Go.Proofs.YtmdepehjfnpklaaGreatDoor

namespace Go.Proofs.YtmdepehjfnpklaaGreatDoor
open Go Go.RowKit
set_option linter.unusedSimpArgs false
set_option linter.unusedVariables false
set_option maxRecDepth 100000

abbrev i32 (n : Int) : D := .pd (.raw (.int .i32 n))
abbrev u8 (n : Int) : D := .pd (.raw (.int .u8 n))

def octet (c : Int) : Bool := (decide (97 ≤ c) && decide (c ≤ 122)) || (decide (48 ≤ c) && decide (c ≤ 57)) || decide (c = 45)

theorem dns_octet (c : Int) : Pure Tryz.prog 109 [i32 c] (fun d => d = bln (octet c)) := by
  refine pure_of_run follows an_zsl5t Tryz.func109 rfl ok_zsl5t dst_zsl5t (by simp [Tryz.ntmps109]) ?_
  rw [run_start]
  simp only [ac_zsl5t, go_sem, contS_seq, simprocAttr]
  repeat' (first | refine GifP.mk (fun _ => ?_) (fun _ => ?_) | refine Gif.mk (fun _ => ?_) (fun _ => ?_))
  all_goals
    simp only [retK, fullK, iterK, resD, resA, AOp.ex, St.ev, Option.map_some, Option.bind_some, St.get, lk, reduceIte, Nat.reduceEqDiff, Option.getD_some, oneD, List.getElem?_cons_zero, List.getElem?_cons_succ, List.drop_zero, List.drop_succ_cons, List.take_succ_cons, List.take_zero, List.length_cons, List.length_nil, Nat.zero_add, Nat.reduceAdd, Nat.le_refl, Nat.reduceLeDiff, D.pub, D.pubs, Tryz.results109]
    exact ⟨_, rfl, rfl, congrArg bln (by first | rfl | (rw [Bool.eq_iff_iff]; simp only [octet]; simp; done) | (rw [Bool.eq_iff_iff]; simp only [octet]; simp; omega) | (rw [Bool.eq_iff_iff]; simp only [octet]; simp [*]; done) | (rw [Bool.eq_iff_iff]; simp only [octet]; simp [*]; omega) | (simp_all [octet]; done) | (exfalso; omega))⟩

theorem dns_Label_1 (c : Int) : Pure Tryz.prog 108 [i32 c] (fun d => d = bln (!octet c)) := by
  refine pure_of_run follows an_zmcx0 Tryz.func108 rfl ok_zmcx0 dst_zmcx0 (by simp [Tryz.ntmps108]) ?_
  rw [run_start]
  simp only [ac_zmcx0, go_sem, contS_seq, simprocAttr]
  refine (dns_octet _).callW (enters_of Tryz.func109 rfl rfl) _ rfl rfl ?_
  rintro d rfl
  simp only [go_sem, contS_seq, simprocAttr]
  simp only [retK, fullK, iterK, resD, resA, AOp.ex, St.ev, Option.map_some, Option.bind_some, St.get, lk, reduceIte, Nat.reduceEqDiff, Option.getD_some, oneD, List.getElem?_cons_zero, List.getElem?_cons_succ, List.drop_zero, List.drop_succ_cons, List.take_succ_cons, List.take_zero, List.length_cons, List.length_nil, Nat.zero_add, Nat.reduceAdd, Nat.le_refl, Nat.reduceLeDiff, D.pub, D.pubs, Tryz.results108]
  exact ⟨_, rfl, rfl, rfl⟩

def runeIdx (p : Int → Bool) (s : ByteArray) : Nat → Nat → Int
  | 0, _ => -1
  | f + 1, pos => if pos < s.size then (if p (Utf8.decode s pos).1 then (pos : Int) else runeIdx p s f (pos + (Utf8.decode s pos).2)) else -1

theorem width_pos (s : ByteArray) (pos : Nat) : 1 ≤ (Utf8.decode s pos).2 := by
  unfold Utf8.decode
  dsimp only
  repeat' split
  all_goals simp

theorem runeIdx_end {p : Int → Bool} {s : ByteArray} {f pos : Nat} (h : ¬ pos < s.size) : runeIdx p s f pos = -1 := by cases f <;> simp [runeIdx, h]

theorem strings_indexFunc (p : Int → Bool) (f : FuncId) (he : Enters Tryz.prog f) (hp : ∀ c, Pure Tryz.prog f [i32 c] (fun d => d = bln (p c))) (s : ByteArray) :
    Pure Tryz.prog 146 [str s, .fn f [], bln true] (fun d => d = int (runeIdx p s s.size 0)) := by
  refine pure_of_run follows an_zkca0 Tryz.func146 rfl ok_zkca0 dst_zkca0 (by simp [Tryz.ntmps146]) ?_
  rw [run_start]
  simp only [ac_zkca0, go_sem, contS_seq, simprocAttr]
  refine loopS (fun k st => ∃ pos : Nat, s.size ≤ pos + k ∧ runeIdx p s k pos = runeIdx p s s.size 0 ∧
    st = ⟨[(1, .fn f []), (2, bln true), (10, .ptr 10 0)], [], [(10, .sit s pos)], .no⟩) s.size _ (Weak.refl _ _) ⟨0, by omega, rfl, rfl⟩ ?_
  rintro k st ⟨pos, hk, hr, rfl⟩
  by_cases hlt : pos < s.size
  · obtain ⟨k, rfl⟩ : ∃ m, k = m + 1 := ⟨k - 1, by omega⟩
    have hw := width_pos s pos
    simp only [go_sem, contS_seq, simprocAttr, hlt]
    refine (hp _).callW he _ rfl rfl ?_
    rintro d rfl
    simp only [runeIdx, hlt, if_true] at hr
    simp only [go_sem, contS_seq, simprocAttr]
    refine ⟨fun h => ?_, fun h => ?_⟩
    · simp only [retK, fullK, iterK, resD, resA, AOp.ex, St.ev, Option.map_some, Option.bind_some, St.get, lk, reduceIte, Nat.reduceEqDiff, Option.getD_some, oneD, List.getElem?_cons_zero, List.getElem?_cons_succ, List.drop_zero, List.drop_succ_cons, List.take_succ_cons, List.take_zero, List.length_cons, List.length_nil, Nat.zero_add, Nat.reduceAdd, Nat.le_refl, Nat.reduceLeDiff, D.pub, D.pubs, Tryz.results146]
      simp at h
      simp only [h, if_true] at hr
      exact ⟨_, rfl, rfl, congrArg int hr⟩
    · simp at h
      simp only [h, Bool.false_eq_true, if_false] at hr
      refine ⟨k, _, ?_, ?_, pos + (Utf8.decode s pos).2, ?_, hr, rfl⟩
      · omega
      · exact Weak.less (by simp [lessL, lk]) (by simp [lessL, lk]) (by simp [lessL, lk]) rfl
      · omega
  · simp only [go_sem, contS_seq, simprocAttr, hlt]
    simp only [retK, fullK, iterK, resD, resA, AOp.ex, St.ev, Option.map_some, Option.bind_some, St.get, lk, reduceIte, Nat.reduceEqDiff, Option.getD_some, oneD, List.getElem?_cons_zero, List.getElem?_cons_succ, List.drop_zero, List.drop_succ_cons, List.take_succ_cons, List.take_zero, List.length_cons, List.length_nil, Nat.zero_add, Nat.reduceAdd, Nat.le_refl, Nat.reduceLeDiff, D.pub, D.pubs, Tryz.results146]
    rw [runeIdx_end hlt] at hr
    exact ⟨_, rfl, rfl, congrArg int hr⟩

theorem strings_IndexFunc (p : Int → Bool) (f : FuncId) (he : Enters Tryz.prog f) (hp : ∀ c, Pure Tryz.prog f [i32 c] (fun d => d = bln (p c))) (s : ByteArray) :
    Pure Tryz.prog 110 [str s, .fn f []] (fun d => d = int (runeIdx p s s.size 0)) := by
  refine pure_of_run follows an_zgrrf Tryz.func110 rfl ok_zgrrf dst_zgrrf (by simp [Tryz.ntmps110]) ?_
  rw [run_start]
  simp only [ac_zgrrf, go_sem, contS_seq, simprocAttr]
  refine (strings_indexFunc p f he hp s).callW (enters_of Tryz.func146 rfl rfl) _ rfl rfl ?_
  rintro d rfl
  simp only [go_sem, contS_seq, simprocAttr]
  simp only [retK, fullK, iterK, resD, resA, AOp.ex, St.ev, Option.map_some, Option.bind_some, St.get, lk, reduceIte, Nat.reduceEqDiff, Option.getD_some, oneD, List.getElem?_cons_zero, List.getElem?_cons_succ, List.drop_zero, List.drop_succ_cons, List.take_succ_cons, List.take_zero, List.length_cons, List.length_nil, Nat.zero_add, Nat.reduceAdd, Nat.le_refl, Nat.reduceLeDiff, D.pub, D.pubs, Tryz.results110]
  exact ⟨_, rfl, rfl, rfl⟩

def label (s : ByteArray) : Bool :=
  !decide (s = ⟨#[]⟩) && decide (s.size ≤ 20) && decide (runeIdx (fun c => !octet c) s s.size 0 < 0) && (match s[0]? with | some b => !decide (b.toNat = 45) | none => false) && (match s[s.size - 1]? with | some b => !decide (b.toNat = 45) | none => false)

theorem at_byte {s : ByteArray} {i : Nat} (h : i < s.size) : ∃ b, s[i]? = some b := ⟨s[i], by simp [h]⟩

theorem size_pos {s : ByteArray} (h : s ≠ ⟨#[]⟩) : 0 < s.size := by
  rcases Nat.eq_zero_or_pos s.size with h0 | h0
  · exact absurd (by cases s with | mk a => simp only [ByteArray.size] at h0; rw [Array.eq_empty_of_size_eq_zero h0]) h
  · exact h0

theorem dns_Label (s : ByteArray) : Pure Tryz.prog 70 [str s] (fun d => d = bln (label s)) := by
  refine pure_of_run follows an_zovze Tryz.func70 rfl ok_zovze dst_zovze (by simp [Tryz.ntmps70]) ?_
  rw [run_start]
  simp only [ac_zovze, go_sem, contS_seq, simprocAttr]
  refine GifP.mk (fun h1 => ?_) (fun h1 => ?_)
  · simp only [retK, fullK, iterK, resD, resA, AOp.ex, St.ev, Option.map_some, Option.bind_some, St.get, lk, reduceIte, Nat.reduceEqDiff, Option.getD_some, oneD, List.getElem?_cons_zero, List.getElem?_cons_succ, List.drop_zero, List.drop_succ_cons, List.take_succ_cons, List.take_zero, List.length_cons, List.length_nil, Nat.zero_add, Nat.reduceAdd, Nat.le_refl, Nat.reduceLeDiff, D.pub, D.pubs, Tryz.results70]
    exact ⟨_, rfl, rfl, congrArg bln (by simp [label, h1])⟩
  have hpos := size_pos h1
  refine GifP.mk (fun h2 => ?_) (fun h2 => ?_)
  rotate_left
  · simp only [retK, fullK, iterK, resD, resA, AOp.ex, St.ev, Option.map_some, Option.bind_some, St.get, lk, reduceIte, Nat.reduceEqDiff, Option.getD_some, oneD, List.getElem?_cons_zero, List.getElem?_cons_succ, List.drop_zero, List.drop_succ_cons, List.take_succ_cons, List.take_zero, List.length_cons, List.length_nil, Nat.zero_add, Nat.reduceAdd, Nat.le_refl, Nat.reduceLeDiff, D.pub, D.pubs, Tryz.results70]
    exact ⟨_, rfl, rfl, congrArg bln (by simp [label]; omega)⟩
  refine (strings_IndexFunc _ _ (enters_of Tryz.func108 rfl rfl) dns_Label_1 s).callW (enters_of Tryz.func110 rfl rfl) _ rfl rfl ?_
  rintro d rfl
  obtain ⟨b0, hb0⟩ : ∃ b, s[0]? = some b := at_byte hpos
  obtain ⟨b1, hb1⟩ : ∃ b, s[s.size - 1]? = some b := at_byte (by omega)
  have hw : IntKind.i64.wrap ((s.size : Int) - 1) = ((s.size - 1 : Nat) : Int) := by rw [IntWalk.i64_in _ (by omega)]; omega
  simp only [go_sem, contS_seq, simprocAttr, hb0, hb1, hw]
  have h20 : s.size ≤ 20 := by omega
  repeat' (first | refine GifP.mk (fun _ => ?_) (fun _ => ?_) | refine Gif.mk (fun _ => ?_) (fun _ => ?_))
  all_goals
    simp only [retK, fullK, iterK, resD, resA, AOp.ex, St.ev, Option.map_some, Option.bind_some, St.get, lk, reduceIte, Nat.reduceEqDiff, Option.getD_some, oneD, List.getElem?_cons_zero, List.getElem?_cons_succ, List.drop_zero, List.drop_succ_cons, List.take_succ_cons, List.take_zero, List.length_cons, List.length_nil, Nat.zero_add, Nat.reduceAdd, Nat.le_refl, Nat.reduceLeDiff, D.pub, D.pubs, Tryz.results70]
    exact ⟨_, rfl, rfl, congrArg bln (by first | rfl | (rw [Bool.eq_iff_iff]; simp only [label, hb0, hb1, h1, h20]; simp; done) | (rw [Bool.eq_iff_iff]; simp only [label, hb0, hb1, h1, h20]; simp; omega) | (rw [Bool.eq_iff_iff]; simp only [label, hb0, hb1, h1, h20]; simp [*]; done) | (rw [Bool.eq_iff_iff]; simp only [label, hb0, hb1, h1, h20]; simp [*]; omega) | (simp_all [label, hb0, hb1, h1, h20]; done) | (exfalso; omega))⟩


theorem pure_of_calls {P : Program} {f : FuncId} {args : List D} {vs : List Value} {v : Value} {d : D} (ha : ∀ g w us, Reps g w args us → us = vs) (hd : d.closed = true) (hv : ∀ g w, Rep g w d v)
    (h : ∀ w, Calls P f vs.toArray w fun e w' => e = .returned v ∧ w' = w) : Pure P f args (fun x => x = d) := by
  intro Fz w us hlt hr
  obtain rfl := ha _ _ _ hr
  refine (h w).mono ?_
  rintro e w' ⟨rfl, rfl⟩
  exact ⟨v, d, Fz, rfl, rfl, hd, Below.refl _ _, Ex.refl _ _, hlt, fun _ _ h _ => h, hv _ _⟩

set_option maxHeartbeats 1000000 in
set_option maxRecDepth 100000 in
theorem run_stringslite_IndexByte (s : ByteArray) (c : Int) (w : World) :
    Calls Tryz.prog 169 #[.string s, .int .u8 c] w fun e w' => e = .returned (.int .i64 (Lib.indexByte s.data.toList c.toNat.toUInt8)) ∧ w' = w := by
  go_enter Tryz.func169, Tryz.ntmps169
  go_wp2
  rw [run_callFunc_extern Tryz.func182 (by kernel_rfl) (by kernel_rfl) (by kernel_rfl) (e := Extern.BytealgIndexByte.indexByte) (by kernel_rfl), Lib.run_indexByteString]
  simp only [Result.andThen]
  rw [Oper.upon_value]
  go_wp2
  go_ret
  exact ⟨rfl, rfl⟩

theorem rep_raw_inv {g : Gh} {w : World} {v u : Value} (h : Rep g w (.pd (.raw v)) u) : u = v := by
  simp only [Rep] at h
  cases h; rfl

theorem reps_two {g : Gh} {w : World} {a b : Value} {us : List Value} (h : Reps g w [.pd (.raw a), .pd (.raw b)] us) : us = [a, b] := by
  simp only [Reps] at h
  obtain ⟨x, r, rfl, hx, y, r', rfl, hy, rfl⟩ := h
  rw [rep_raw_inv hx, rep_raw_inv hy]

theorem stringslite_IndexByte (s : ByteArray) (c : Int) : Pure Tryz.prog 169 [str s, u8 c] (fun d => d = int (Lib.indexByte s.data.toList c.toNat.toUInt8)) :=
  pure_of_calls (vs := [.string s, .int .u8 c]) (v := .int .i64 (Lib.indexByte s.data.toList c.toNat.toUInt8)) (fun _ _ _ h => reps_two h) rfl (fun _ _ => by simp only [Rep]; exact .raw _ rfl) (run_stringslite_IndexByte s c)

theorem strings_IndexByte (s : ByteArray) (c : Int) : Pure Tryz.prog 156 [str s, u8 c] (fun d => d = int (Lib.indexByte s.data.toList c.toNat.toUInt8)) := by
  refine pure_of_run follows an_zixxy Tryz.func156 rfl ok_zixxy dst_zixxy (by simp [Tryz.ntmps156]) ?_
  rw [run_start]
  simp only [ac_zixxy, go_sem, contS_seq, simprocAttr]
  refine (stringslite_IndexByte s c).callW (enters_of Tryz.func169 rfl rfl) _ rfl rfl ?_
  rintro d rfl
  simp only [go_sem, contS_seq, simprocAttr]
  simp only [retK, fullK, iterK, resD, resA, AOp.ex, St.ev, Option.map_some, Option.bind_some, St.get, lk, reduceIte, Nat.reduceEqDiff, Option.getD_some, oneD, List.getElem?_cons_zero, List.getElem?_cons_succ, List.drop_zero, List.drop_succ_cons, List.take_succ_cons, List.take_zero, List.length_cons, List.length_nil, Nat.zero_add, Nat.reduceAdd, Nat.le_refl, Nat.reduceLeDiff, D.pub, D.pubs, Tryz.results156]
  exact ⟨_, rfl, rfl, rfl⟩

theorem stringslite_Index (s : ByteArray) (c : UInt8) : Pure Tryz.prog 168 [str s, str ⟨#[c]⟩] (fun d => d = int (Lib.indexByte s.data.toList c)) := by
  refine pure_of_run follows an_zn6ys Tryz.func168 rfl ok_zn6ys dst_zn6ys (by simp [Tryz.ntmps168]) ?_
  rw [run_start]
  have h1 : (ByteArray.mk #[c]).size = 1 := rfl
  have h2 : (ByteArray.mk #[c])[0]? = some c := rfl
  have h3 : ((1 : Nat) : Int) = 1 := rfl
  have h4 : ((1 : Int) = 0) = False := by simp
  simp only [ac_zn6ys, go_sem, contS_seq, simprocAttr, h1, h2, h3, h4]
  refine GifP.mk (fun he => ?_) (fun he => ?_)
  · simp only [retK, fullK, iterK, resD, resA, AOp.ex, St.ev, Option.map_some, Option.bind_some, St.get, lk, reduceIte, Nat.reduceEqDiff, Option.getD_some, oneD, List.getElem?_cons_zero, List.getElem?_cons_succ, List.drop_zero, List.drop_succ_cons, List.take_succ_cons, List.take_zero, List.length_cons, List.length_nil, Nat.zero_add, Nat.reduceAdd, Nat.le_refl, Nat.reduceLeDiff, D.pub, D.pubs, Tryz.results168]
    exact ⟨_, rfl, rfl, congrArg int (by rw [← he]; simp [Lib.indexByte])⟩
  refine (stringslite_IndexByte s c.toNat).callW (enters_of Tryz.func169 rfl rfl) _ rfl rfl ?_
  rintro d rfl
  simp only [go_sem, contS_seq, simprocAttr]
  simp only [retK, fullK, iterK, resD, resA, AOp.ex, St.ev, Option.map_some, Option.bind_some, St.get, lk, reduceIte, Nat.reduceEqDiff, Option.getD_some, oneD, List.getElem?_cons_zero, List.getElem?_cons_succ, List.drop_zero, List.drop_succ_cons, List.take_succ_cons, List.take_zero, List.length_cons, List.length_nil, Nat.zero_add, Nat.reduceAdd, Nat.le_refl, Nat.reduceLeDiff, D.pub, D.pubs, Tryz.results168]
  exact ⟨_, rfl, rfl, congrArg int (by simp)⟩

theorem strings_Index (s : ByteArray) (c : UInt8) : Pure Tryz.prog 151 [str s, str ⟨#[c]⟩] (fun d => d = int (Lib.indexByte s.data.toList c)) := by
  refine pure_of_run follows an_z89f Tryz.func151 rfl ok_z89f dst_z89f (by simp [Tryz.ntmps151]) ?_
  rw [run_start]
  simp only [ac_z89f, go_sem, contS_seq, simprocAttr]
  refine (stringslite_Index s c).callW (enters_of Tryz.func168 rfl rfl) _ rfl rfl ?_
  rintro d rfl
  simp only [go_sem, contS_seq, simprocAttr]
  simp only [retK, fullK, iterK, resD, resA, AOp.ex, St.ev, Option.map_some, Option.bind_some, St.get, lk, reduceIte, Nat.reduceEqDiff, Option.getD_some, oneD, List.getElem?_cons_zero, List.getElem?_cons_succ, List.drop_zero, List.drop_succ_cons, List.take_succ_cons, List.take_zero, List.length_cons, List.length_nil, Nat.zero_add, Nat.reduceAdd, Nat.le_refl, Nat.reduceLeDiff, D.pub, D.pubs, Tryz.results151]
  exact ⟨_, rfl, rfl, rfl⟩

def splitB (c : UInt8) : Nat → ByteArray → List ByteArray
  | 0, s => [s]
  | f + 1, s => if Lib.indexByte s.data.toList c < 0 then [s] else s.extract 0 (Lib.indexByte s.data.toList c).toNat :: splitB c f (s.extract ((Lib.indexByte s.data.toList c).toNat + 1) s.size)

theorem indexByte_lt : ∀ (l : List UInt8) (c : UInt8), Lib.indexByte l c < 0 ∨ Lib.indexByte l c < l.length
  | [], c => by simp [Lib.indexByte]
  | b :: l, c => by
    have := indexByte_lt l c
    simp only [Lib.indexByte, List.length_cons]
    split
    · right; omega
    · split
      · left; decide
      · right; rename_i h1 h2; have := Lib.indexByte_ge l c; simp at h2; omega

theorem size_list (s : ByteArray) : s.data.toList.length = s.size := rfl

theorem drop_cons_at {α : Type} {l r : List α} {i : Nat} {x : α} (h : l.drop i = x :: r) : l[i]? = some x ∧ l.drop (i + 1) = r := by
  constructor
  · have := congrArg (fun m => m[0]?) h
    simpa using this
  · have := congrArg (fun m => m.drop 1) h
    simpa [List.drop_drop] using this

theorem splitB_end {c : UInt8} {k : Nat} {r : ByteArray} (h : Lib.indexByte r.data.toList c < 0) : splitB c k r = [r] := by
  cases k <;> simp [splitB, h]

set_option maxRecDepth 100000 in
theorem splitSeq_1 (c : UInt8) (s : ByteArray) (hs : s.size ≤ 1000000) : IterB Tryz.prog 149 [(500001, 0), (500002, 0), (500003, 0)] [(500001, [str ⟨#[c]⟩]), (500002, [str s]), (500003, [int 0])] ((splitB c s.size s).map Value.string) := by
  refine iter_of_run follows an_zjcnn Tryz.func149 rfl ok_zjcnn dst_zjcnn (by simp [Tryz.ntmps149]) rfl ?_
  intro l
  rw [run_start]
  have h1 : (ByteArray.mk #[c]).size = 1 := rfl
  have h3 : ((1 : Nat) : Int) = 1 := rfl
  have h4 : ((1 : Int) = 0) = False := by simp
  obtain ⟨X, hX⟩ : ∃ X, X = ((splitB c s.size s).map Value.string).map ([·]) := ⟨_, rfl⟩
  rw [← hX]
  simp only [ac_zjcnn, go_sem, contS_seq, simprocAttr, h1, h3, h4]
  refine loopS (fun k st => ∃ (i : Nat) (r : ByteArray), r.size ≤ k ∧ r.size ≤ 1000000 ∧ X.drop i = ((splitB c k r).map Value.string).map ([·]) ∧
    st = ⟨[(0, yieldD l), (1, .ptr 500001 0), (2, .ptr 500002 0), (3, .ptr 500003 0)], [(500001, [str ⟨#[c]⟩]), (500002, [str r]), (500003, [int 0])], [], .it l X i false⟩) s.size _ ?_ ⟨0, s, Nat.le_refl _, hs, hX, rfl⟩ ?_
  · exact Weak.less (by simp [lessL, lk]) (by simp [lessL, lk]) (by simp [lessL, lk]) rfl
  rintro k st ⟨i, r, hk, hrs, hdr, rfl⟩
  obtain ⟨j, hj⟩ : ∃ j, Lib.indexByte r.data.toList c = j := ⟨_, rfl⟩
  simp only [go_sem, contS_seq, simprocAttr]
  refine (strings_Index r c).callW (enters_of Tryz.func151 rfl rfl) _ rfl rfl ?_
  rintro d rfl
  rw [hj]
  by_cases hj0 : j < 0
  · rw [splitB_end (by omega)] at hdr
    obtain ⟨e1, e2⟩ := drop_cons_at hdr
    have e3 : X.length ≤ i + 1 := by simpa using List.drop_eq_nil_iff.1 e2
    have e4 : i < X.length := (List.getElem?_eq_some_iff.1 e1).1
    simp only [go_sem, contS_seq, simprocAttr, hj0, e1]
    exact ⟨⟨[], _, _, rfl, rfl, fun _ => by omega⟩, ⟨[], _, _, rfl, rfl, fun h => by cases h⟩⟩
  · obtain ⟨m, rfl⟩ : ∃ m : Nat, j = m := ⟨j.toNat, by omega⟩
    have hm : m < r.size := by
      have := indexByte_lt r.data.toList c
      rw [hj, size_list] at this
      omega
    obtain ⟨k, rfl⟩ : ∃ n, k = n + 1 := ⟨k - 1, by omega⟩
    have hsp : splitB c (k + 1) r = r.extract 0 m :: splitB c k (r.extract (m + 1) r.size) := by
      rw [splitB, hj, if_neg hj0, Int.toNat_natCast]
    rw [hsp] at hdr
    obtain ⟨e1, e2⟩ := drop_cons_at hdr
    have w1 : IntKind.i64.wrap ((m : Int) + 0) = (m : Int) := by rw [IntWalk.i64_in _ (by omega)]; omega
    have w2 : IntKind.i64.wrap ((m : Int) + 1) = ((m + 1 : Nat) : Int) := by rw [IntWalk.i64_in _ (by omega)]; omega
    have c1 : (m ≤ r.size) = True := by simp; omega
    have c2 : (m + 1 ≤ r.size) = True := by simp; omega
    have hsz : (r.extract (m + 1) r.size).size = r.size - (m + 1) := by simp [ByteArray.size_extract]
    simp only [go_sem, contS_seq, simprocAttr, hj0, w1, w2, h1, h3, c1, c2, e1]
    refine ⟨⟨k, _, ?_, ?_, i + 1, r.extract (m + 1) r.size, ?_, ?_, e2, rfl⟩, ⟨[], _, _, rfl, rfl, fun h => by cases h⟩⟩
    · omega
    · exact Weak.less (by simp [lessL, lk]) (by simp [lessL, lk]) (by simp [lessL, lk]) rfl
    · omega
    · omega

theorem strings_splitSeq (s sep : ByteArray) : Full Tryz.prog 119 [str s, str sep, int 0] [] true (fun d bs => d = .fn 149 [(4, 0), (3, 0), (5, 0)] ∧ bs = [(4, [str sep]), (3, [str s]), (5, [int 0])]) := by
  refine full_of_run follows an_z70r5 Tryz.func119 rfl ok_z70r5 dst_z70r5 (by simp [Tryz.ntmps119]) (by simp [Tryz.ntmps119]) (.inl rfl) ?_
  rw [run_start]
  simp only [ac_z70r5, go_sem, contS_seq, simprocAttr]
  simp only [retK, fullK, iterK, resD, resA, AOp.ex, St.ev, Option.map_some, Option.bind_some, St.get, lk, reduceIte, Nat.reduceEqDiff, Option.getD_some, oneD, List.getElem?_cons_zero, List.getElem?_cons_succ, List.drop_zero, List.drop_succ_cons, List.take_succ_cons, List.take_zero, List.length_cons, List.length_nil, Nat.zero_add, Nat.reduceAdd, Nat.le_refl, Nat.reduceLeDiff, D.pub, D.pubs, Tryz.results119]
  exact ⟨_, _, rfl, by simp [lessL, lk], rfl, rfl⟩

theorem strings_SplitSeq (s sep : ByteArray) : Full Tryz.prog 88 [str s, str sep] [] true (fun d bs => d = .fn 149 [(200001, 0), (200002, 0), (200003, 0)] ∧ bs = [(200001, [str sep]), (200002, [str s]), (200003, [int 0])]) := by
  refine full_of_run follows an_zln7r Tryz.func88 rfl ok_zln7r dst_zln7r (by simp [Tryz.ntmps88]) (by simp [Tryz.ntmps88]) (.inl rfl) ?_
  rw [run_start]
  simp only [ac_zln7r, go_sem, contS_seq, simprocAttr]
  refine (strings_splitSeq s sep).callW (enters_of Tryz.func119 rfl rfl) _ false [] [] [(4, 200001), (3, 200002), (5, 200003)] [] rfl rfl rfl ?_
  rintro d bs ⟨rfl, rfl⟩
  simp only [go_sem, contS_seq, simprocAttr]
  simp only [retK, fullK, iterK, resD, resA, AOp.ex, St.ev, Option.map_some, Option.bind_some, St.get, lk, reduceIte, Nat.reduceEqDiff, Option.getD_some, oneD, List.getElem?_cons_zero, List.getElem?_cons_succ, List.drop_zero, List.drop_succ_cons, List.take_succ_cons, List.take_zero, List.length_cons, List.length_nil, Nat.zero_add, Nat.reduceAdd, Nat.le_refl, Nat.reduceLeDiff, D.pub, D.pubs, Tryz.results88]
  exact ⟨_, _, rfl, by simp [lessL, lk], rfl, rfl⟩

def dname (s : ByteArray) : Bool := decide (s.size ≤ 60) && (splitB 46 s.size s).all label

set_option maxRecDepth 100000 in
theorem dns_Name (s : ByteArray) : Pure Tryz.prog 53 [str s] (fun d => d = bln (dname s)) := by
  refine pure_of_run follows an_zmldt Tryz.func53 rfl ok_zmldt dst_zmldt (by simp [Tryz.ntmps53]) ?_
  rw [run_start]
  simp only [ac_zmldt, go_sem, contS_seq, simprocAttr]
  refine GifP.mk (fun h => ?_) (fun h => ?_)
  · simp only [retK, fullK, iterK, resD, resA, AOp.ex, St.ev, Option.map_some, Option.bind_some, St.get, lk, reduceIte, Nat.reduceEqDiff, Option.getD_some, oneD, List.getElem?_cons_zero, List.getElem?_cons_succ, List.drop_zero, List.drop_succ_cons, List.take_succ_cons, List.take_zero, List.length_cons, List.length_nil, Nat.zero_add, Nat.reduceAdd, Nat.le_refl, Nat.reduceLeDiff, D.pub, D.pubs, ret_zmldt]
    exact ⟨_, rfl, rfl, congrArg bln (by simp only [dname]; simp; omega)⟩
  have h60 : s.size ≤ 60 := by omega
  refine (strings_SplitSeq s ⟨#[46]⟩).callW (enters_of Tryz.func88 rfl rfl) _ false [] [] [(200001, 200011), (200002, 200012), (200003, 200013)] [] rfl rfl rfl ?_
  rintro d bs ⟨rfl, rfl⟩
  simp only [go_sem, contS_seq, simprocAttr]
  refine rangeS ((splitB 46 s.size s).map Value.string) (fun i bs => (∀ j x, j < i → (splitB 46 s.size s)[j]? = some x → label x = true) ∧ bs = [(2, [bln false])]) rfl rfl rfl
    ((splitSeq_1 46 s (by omega)).iterW (enters_of Tryz.func149 rfl rfl) false [(200011, 500001), (200012, 500002), (200013, 500003)] rfl rfl rfl) ⟨fun _ _ h => absurd h (Nat.not_lt_zero _), rfl⟩ ?_ ?_
  · rintro i v bs hv ⟨hpre, rfl⟩
    rw [List.getElem?_map] at hv
    obtain ⟨x, hx, rfl⟩ := Option.map_eq_some_iff.1 hv
    simp only [go_sem, contS_seq, simprocAttr]
    refine (dns_Label x).callW (enters_of Tryz.func70 rfl rfl) _ rfl rfl ?_
    rintro d rfl
    simp only [go_sem, contS_seq, simprocAttr]
    refine Gif.mk (fun hl => ?_) (fun hl => ?_)
    · refine fun j y hj hy => ?_
      rcases Nat.lt_or_ge j i with h' | h'
      · exact hpre j y h' hy
      · obtain rfl : j = i := by omega
        rw [hx] at hy; cases hy; exact hl
    · simp only [retK, fullK, iterK, resD, resA, AOp.ex, St.ev, Option.map_some, Option.bind_some, St.get, lk, reduceIte, Nat.reduceEqDiff, Option.getD_some, oneD, List.getElem?_cons_zero, List.getElem?_cons_succ, List.drop_zero, List.drop_succ_cons, List.take_succ_cons, List.take_zero, List.length_cons, List.length_nil, Nat.zero_add, Nat.reduceAdd, Nat.le_refl, Nat.reduceLeDiff, D.pub, D.pubs, ret_zmldt]
      refine ⟨_, rfl, rfl, congrArg bln ?_⟩
      have : (splitB 46 s.size s).all label = false := List.all_eq_false.2 ⟨x, List.mem_of_getElem? hx, by simp [hl]⟩
      simp [dname, this]
  · rintro bs ⟨hall, rfl⟩
    simp only [go_sem, contS_seq, simprocAttr]
    simp only [retK, fullK, iterK, resD, resA, AOp.ex, St.ev, Option.map_some, Option.bind_some, St.get, lk, reduceIte, Nat.reduceEqDiff, Option.getD_some, oneD, List.getElem?_cons_zero, List.getElem?_cons_succ, List.drop_zero, List.drop_succ_cons, List.take_succ_cons, List.take_zero, List.length_cons, List.length_nil, Nat.zero_add, Nat.reduceAdd, Nat.le_refl, Nat.reduceLeDiff, D.pub, D.pubs, ret_zmldt]
    refine ⟨_, rfl, rfl, congrArg bln ?_⟩
    have : (splitB 46 s.size s).all label = true := List.all_eq_true.2 fun x hx => by
      obtain ⟨j, hj⟩ := List.getElem?_of_mem hx
      exact hall j x (by have := (List.getElem?_eq_some_iff.1 hj).1; simpa using this) hj
    simp [dname, this, h60]


def hasPrefix (s p : ByteArray) : Bool := decide (p.size ≤ s.size) && decide (s.extract 0 p.size = p)
def hasSuffix (s p : ByteArray) : Bool := decide (p.size ≤ s.size) && decide (s.extract (s.size - p.size) s.size = p)

theorem stringslite_HasPrefix (s p : ByteArray) : Pure Tryz.prog 154 [str s, str p] (fun d => d = bln (hasPrefix s p)) := by
  refine pure_of_run follows an_zntfc Tryz.func154 rfl ok_zntfc dst_zntfc (by simp [Tryz.ntmps154]) ?_
  rw [run_start]
  by_cases h : p.size ≤ s.size
  · have h1 : ((p.size : Int) ≤ (s.size : Int)) = True := by simp; omega
    have h2 : (p.size ≤ s.size) = True := by simp [h]
    simp only [ac_zntfc, go_sem, contS_seq, simprocAttr, h1, h2]
    simp only [retK, fullK, iterK, resD, resA, AOp.ex, St.ev, Option.map_some, Option.bind_some, St.get, lk, reduceIte, Nat.reduceEqDiff, Option.getD_some, oneD, List.getElem?_cons_zero, List.getElem?_cons_succ, List.drop_zero, List.drop_succ_cons, List.take_succ_cons, List.take_zero, List.length_cons, List.length_nil, Nat.zero_add, Nat.reduceAdd, Nat.le_refl, Nat.reduceLeDiff, D.pub, D.pubs, Tryz.results154]
    exact ⟨_, rfl, rfl, congrArg bln (by simp [hasPrefix, h])⟩
  · have h1 : ((p.size : Int) ≤ (s.size : Int)) = False := by simp; omega
    simp only [ac_zntfc, go_sem, contS_seq, simprocAttr, h1]
    simp only [retK, fullK, iterK, resD, resA, AOp.ex, St.ev, Option.map_some, Option.bind_some, St.get, lk, reduceIte, Nat.reduceEqDiff, Option.getD_some, oneD, List.getElem?_cons_zero, List.getElem?_cons_succ, List.drop_zero, List.drop_succ_cons, List.take_succ_cons, List.take_zero, List.length_cons, List.length_nil, Nat.zero_add, Nat.reduceAdd, Nat.le_refl, Nat.reduceLeDiff, D.pub, D.pubs, Tryz.results154]
    exact ⟨_, rfl, rfl, congrArg bln (by simp [hasPrefix, h])⟩

theorem stringslite_HasSuffix (s p : ByteArray) (hs : s.size ≤ 1000000) : Pure Tryz.prog 186 [str s, str p] (fun d => d = bln (hasSuffix s p)) := by
  refine pure_of_run follows an_z30tk Tryz.func186 rfl ok_z30tk dst_z30tk (by simp [Tryz.ntmps186]) ?_
  rw [run_start]
  by_cases h : p.size ≤ s.size
  · have h1 : ((p.size : Int) ≤ (s.size : Int)) = True := by simp; omega
    have h2 : (s.size - p.size ≤ s.size) = True := by simp
    have h3 : IntKind.i64.wrap ((s.size : Int) - (p.size : Int)) = ((s.size - p.size : Nat) : Int) := by rw [IntWalk.i64_in _ (by omega)]; omega
    simp only [ac_z30tk, go_sem, contS_seq, simprocAttr, h1, h2, h3]
    simp only [retK, fullK, iterK, resD, resA, AOp.ex, St.ev, Option.map_some, Option.bind_some, St.get, lk, reduceIte, Nat.reduceEqDiff, Option.getD_some, oneD, List.getElem?_cons_zero, List.getElem?_cons_succ, List.drop_zero, List.drop_succ_cons, List.take_succ_cons, List.take_zero, List.length_cons, List.length_nil, Nat.zero_add, Nat.reduceAdd, Nat.le_refl, Nat.reduceLeDiff, D.pub, D.pubs, Tryz.results186]
    exact ⟨_, rfl, rfl, congrArg bln (by simp [hasSuffix, h])⟩
  · have h1 : ((p.size : Int) ≤ (s.size : Int)) = False := by simp; omega
    simp only [ac_z30tk, go_sem, contS_seq, simprocAttr, h1]
    simp only [retK, fullK, iterK, resD, resA, AOp.ex, St.ev, Option.map_some, Option.bind_some, St.get, lk, reduceIte, Nat.reduceEqDiff, Option.getD_some, oneD, List.getElem?_cons_zero, List.getElem?_cons_succ, List.drop_zero, List.drop_succ_cons, List.take_succ_cons, List.take_zero, List.length_cons, List.length_nil, Nat.zero_add, Nat.reduceAdd, Nat.le_refl, Nat.reduceLeDiff, D.pub, D.pubs, Tryz.results186]
    exact ⟨_, rfl, rfl, congrArg bln (by simp [hasSuffix, h])⟩

theorem strings_HasPrefix (s p : ByteArray) : Pure Tryz.prog 177 [str s, str p] (fun d => d = bln (hasPrefix s p)) := by
  refine pure_of_run follows an_zc2tl Tryz.func177 rfl ok_zc2tl dst_zc2tl (by simp [Tryz.ntmps177]) ?_
  rw [run_start]
  simp only [ac_zc2tl, go_sem, contS_seq, simprocAttr]
  (repeat' (first | (refine GifP.mk (fun _ => ?_) (fun _ => ?_)) | (refine Gif.mk (fun _ => ?_) (fun _ => ?_)) | (refine (stringslite_HasPrefix _ _).callW (enters_of Tryz.func154 rfl rfl) _ rfl rfl ?_; rintro _ rfl; try simp only [go_sem, contS_seq, simprocAttr]))) <;> (simp only [retK, fullK, iterK, resD, resA, AOp.ex, St.ev, Option.map_some, Option.bind_some, St.get, lk, reduceIte, Nat.reduceEqDiff, Option.getD_some, oneD, List.getElem?_cons_zero, List.getElem?_cons_succ, List.drop_zero, List.drop_succ_cons, List.take_succ_cons, List.take_zero, List.length_cons, List.length_nil, Nat.zero_add, Nat.reduceAdd, Nat.le_refl, Nat.reduceLeDiff, D.pub, D.pubs, Tryz.results177]; exact ⟨_, rfl, rfl, congrArg bln (by first | rfl | (rw [Bool.eq_iff_iff]; simp only [hasPrefix]; simp; done) | (rw [Bool.eq_iff_iff]; simp only [hasPrefix]; simp; omega) | (rw [Bool.eq_iff_iff]; simp only [hasPrefix]; simp [*]; done) | (rw [Bool.eq_iff_iff]; simp only [hasPrefix]; simp [*]; omega) | (simp_all [hasPrefix]; done) | (exfalso; omega))⟩)

theorem strings_HasSuffix (s p : ByteArray) (hs : s.size ≤ 1000000) : Pure Tryz.prog 178 [str s, str p] (fun d => d = bln (hasSuffix s p)) := by
  refine pure_of_run follows an_zq3h5 Tryz.func178 rfl ok_zq3h5 dst_zq3h5 (by simp [Tryz.ntmps178]) ?_
  rw [run_start]
  simp only [ac_zq3h5, go_sem, contS_seq, simprocAttr]
  (repeat' (first | (refine GifP.mk (fun _ => ?_) (fun _ => ?_)) | (refine Gif.mk (fun _ => ?_) (fun _ => ?_)) | (refine (stringslite_HasSuffix _ _ hs).callW (enters_of Tryz.func186 rfl rfl) _ rfl rfl ?_; rintro _ rfl; try simp only [go_sem, contS_seq, simprocAttr]))) <;> (simp only [retK, fullK, iterK, resD, resA, AOp.ex, St.ev, Option.map_some, Option.bind_some, St.get, lk, reduceIte, Nat.reduceEqDiff, Option.getD_some, oneD, List.getElem?_cons_zero, List.getElem?_cons_succ, List.drop_zero, List.drop_succ_cons, List.take_succ_cons, List.take_zero, List.length_cons, List.length_nil, Nat.zero_add, Nat.reduceAdd, Nat.le_refl, Nat.reduceLeDiff, D.pub, D.pubs, Tryz.results178]; exact ⟨_, rfl, rfl, congrArg bln (by first | rfl | (rw [Bool.eq_iff_iff]; simp only [hasSuffix]; simp; done) | (rw [Bool.eq_iff_iff]; simp only [hasSuffix]; simp; omega) | (rw [Bool.eq_iff_iff]; simp only [hasSuffix]; simp [*]; done) | (rw [Bool.eq_iff_iff]; simp only [hasSuffix]; simp [*]; omega) | (simp_all [hasSuffix]; done) | (exfalso; omega))⟩)

def cutPrefix (s p : ByteArray) : ByteArray := if hasPrefix s p then s.extract p.size s.size else s

theorem stringslite_CutPrefix (s p : ByteArray) : Pure Tryz.prog 126 [str s, str p] (fun d => d = .tup [str (cutPrefix s p), bln (hasPrefix s p)]) := by
  refine pure_of_run follows an_zd73u Tryz.func126 rfl ok_zd73u dst_zd73u (by simp [Tryz.ntmps126]) ?_
  rw [run_start]
  simp only [ac_zd73u, go_sem, contS_seq, simprocAttr]
  refine (stringslite_HasPrefix s p).callW (enters_of Tryz.func154 rfl rfl) _ rfl rfl ?_
  rintro d rfl
  simp only [go_sem, contS_seq, simprocAttr]
  refine Gif.mk (fun h => ?_) (fun h => ?_)
  · have h1 : p.size ≤ s.size := by simp only [hasPrefix, Bool.and_eq_true, decide_eq_true_eq] at h; exact h.1
    have h2 : (p.size ≤ s.size) = True := by simp [h1]
    simp only [go_sem, contS_seq, simprocAttr, h2]
    simp only [retK, fullK, iterK, resD, resA, AOp.ex, St.ev, Option.map_some, Option.bind_some, St.get, lk, reduceIte, Nat.reduceEqDiff, Option.getD_some, oneD, List.getElem?_cons_zero, List.getElem?_cons_succ, List.drop_zero, List.drop_succ_cons, List.take_succ_cons, List.take_zero, List.length_cons, List.length_nil, Nat.zero_add, Nat.reduceAdd, Nat.le_refl, Nat.reduceLeDiff, D.pub, D.pubs, Tryz.results126]
    exact ⟨_, rfl, rfl, by simp [cutPrefix, h, D.pub, D.pubs]⟩
  · simp only [retK, fullK, iterK, resD, resA, AOp.ex, St.ev, Option.map_some, Option.bind_some, St.get, lk, reduceIte, Nat.reduceEqDiff, Option.getD_some, oneD, List.getElem?_cons_zero, List.getElem?_cons_succ, List.drop_zero, List.drop_succ_cons, List.take_succ_cons, List.take_zero, List.length_cons, List.length_nil, Nat.zero_add, Nat.reduceAdd, Nat.le_refl, Nat.reduceLeDiff, D.pub, D.pubs, Tryz.results126]
    exact ⟨_, rfl, rfl, by simp [cutPrefix, h, D.pub, D.pubs]⟩

theorem strings_CutPrefix (s p : ByteArray) : Pure Tryz.prog 98 [str s, str p] (fun d => d = .tup [str (cutPrefix s p), bln (hasPrefix s p)]) := by
  refine pure_of_run follows an_zgqff Tryz.func98 rfl ok_zgqff dst_zgqff (by simp [Tryz.ntmps98]) ?_
  rw [run_start]
  simp only [ac_zgqff, go_sem, contS_seq, simprocAttr]
  refine (stringslite_CutPrefix s p).callW (enters_of Tryz.func126 rfl rfl) _ rfl rfl ?_
  rintro d rfl
  simp only [go_sem, contS_seq, simprocAttr]
  simp only [retK, fullK, iterK, resD, resA, AOp.ex, St.ev, Option.map_some, Option.bind_some, St.get, lk, reduceIte, Nat.reduceEqDiff, Option.getD_some, oneD, List.getElem?_cons_zero, List.getElem?_cons_succ, List.drop_zero, List.drop_succ_cons, List.take_succ_cons, List.take_zero, List.length_cons, List.length_nil, Nat.zero_add, Nat.reduceAdd, Nat.le_refl, Nat.reduceLeDiff, D.pub, D.pubs, Tryz.results98]
  exact ⟨_, rfl, rfl, rfl⟩

def hostMay (p : ByteArray) : Bool := decide (p = ⟨#[]⟩) || (decide (p.size ≤ 60) && dname (cutPrefix p ⟨#[42, 46]⟩) && (hasPrefix p ⟨#[42, 46]⟩ || decide (cutPrefix p ⟨#[42, 46]⟩ = p)))

set_option maxRecDepth 100000 in
theorem host_May (p : ByteArray) : Pure Tryz.prog 62 [str p] (fun d => d = bln (hostMay p)) := by
  refine pure_of_run follows an_z2osy Tryz.func62 rfl ok_z2osy dst_z2osy (by simp [Tryz.ntmps62]) ?_
  rw [run_start]
  simp only [ac_z2osy, go_sem, contS_seq, simprocAttr]
  (repeat' (first | (refine GifP.mk (fun _ => ?_) (fun _ => ?_)) | (refine Gif.mk (fun _ => ?_) (fun _ => ?_)) | ((first | refine (strings_CutPrefix _ _).callW (enters_of Tryz.func98 rfl rfl) _ rfl rfl ?_ | refine (dns_Name _).callW (enters_of Tryz.func53 rfl rfl) _ rfl rfl ?_); rintro _ rfl; try simp only [go_sem, contS_seq, simprocAttr]))) <;> (simp only [retK, fullK, iterK, resD, resA, AOp.ex, St.ev, Option.map_some, Option.bind_some, St.get, lk, reduceIte, Nat.reduceEqDiff, Option.getD_some, oneD, List.getElem?_cons_zero, List.getElem?_cons_succ, List.drop_zero, List.drop_succ_cons, List.take_succ_cons, List.take_zero, List.length_cons, List.length_nil, Nat.zero_add, Nat.reduceAdd, Nat.le_refl, Nat.reduceLeDiff, D.pub, D.pubs, Tryz.results62]; exact ⟨_, rfl, rfl, congrArg bln (by first | rfl | (rw [Bool.eq_iff_iff]; simp only [hostMay]; simp; done) | (rw [Bool.eq_iff_iff]; simp only [hostMay]; simp; omega) | (rw [Bool.eq_iff_iff]; simp only [hostMay]; simp [*]; done) | (rw [Bool.eq_iff_iff]; simp only [hostMay]; simp [*]; omega) | (simp_all [hostMay]; done) | (exfalso; omega))⟩)

def labValue (s : ByteArray) : Bool := decide (s = ⟨#[]⟩) || label s

theorem label_value (s : ByteArray) : Pure Tryz.prog 83 [str s] (fun d => d = bln (labValue s)) := by
  refine pure_of_run follows an_ziqey Tryz.func83 rfl ok_ziqey dst_ziqey (by simp [Tryz.ntmps83]) ?_
  rw [run_start]
  simp only [ac_ziqey, go_sem, contS_seq, simprocAttr]
  (repeat' (first | (refine GifP.mk (fun _ => ?_) (fun _ => ?_)) | (refine Gif.mk (fun _ => ?_) (fun _ => ?_)) | (refine (dns_Label _).callW (enters_of Tryz.func70 rfl rfl) _ rfl rfl ?_; rintro _ rfl; try simp only [go_sem, contS_seq, simprocAttr]))) <;> (simp only [retK, fullK, iterK, resD, resA, AOp.ex, St.ev, Option.map_some, Option.bind_some, St.get, lk, reduceIte, Nat.reduceEqDiff, Option.getD_some, oneD, List.getElem?_cons_zero, List.getElem?_cons_succ, List.drop_zero, List.drop_succ_cons, List.take_succ_cons, List.take_zero, List.length_cons, List.length_nil, Nat.zero_add, Nat.reduceAdd, Nat.le_refl, Nat.reduceLeDiff, D.pub, D.pubs, Tryz.results83]; exact ⟨_, rfl, rfl, congrArg bln (by first | rfl | (rw [Bool.eq_iff_iff]; simp only [labValue]; simp; done) | (rw [Bool.eq_iff_iff]; simp only [labValue]; simp; omega) | (rw [Bool.eq_iff_iff]; simp only [labValue]; simp [*]; done) | (rw [Bool.eq_iff_iff]; simp only [labValue]; simp [*]; omega) | (simp_all [labValue]; done) | (exfalso; omega))⟩)

theorem bytes_get (s : ByteArray) (i : Nat) : s[i]? = s.data.toList[i]? := by
  by_cases h : i < s.size
  · rw [getElem?_pos s i h, getElem?_pos s.data.toList i (by rw [size_list]; exact h)]; rfl
  · rw [getElem?_neg s i h, getElem?_neg s.data.toList i (by rw [size_list]; exact h)]

theorem byte_at {s : ByteArray} {i : Nat} (h : i < s.size) : ∃ b, s[i]? = some b ∧ s.data.toList.drop i = b :: s.data.toList.drop (i + 1) := by
  obtain ⟨b, hb⟩ := at_byte h
  exact ⟨b, hb, drop_at (by rw [← bytes_get]; exact hb)⟩

theorem byte_end {s : ByteArray} {i : Nat} (h : ¬ i < s.size) : s.data.toList.drop i = [] := List.drop_eq_nil_of_le (by rw [size_list]; omega)

theorem i64_succ {i : Nat} (h : i < 1000000000) : IntKind.i64.wrap ((i : Int) + 1) = ((i + 1 : Nat) : Int) := by rw [IntWalk.i64_in _ (by omega)]; omega

def runeAll (p : Int → Bool) (s : ByteArray) : Nat → Nat → Bool
  | 0, _ => true
  | f + 1, pos => if pos < s.size then p (Utf8.decode s pos).1 && runeAll p s f (pos + (Utf8.decode s pos).2) else true

theorem runeAll_end {p : Int → Bool} {s : ByteArray} {f pos : Nat} (h : ¬ pos < s.size) : runeAll p s f pos = true := by cases f <;> simp [runeAll, h]

def pathRune (c : Int) : Bool := decide (33 ≤ c) && decide (c ≤ 126) && !decide (c = 63) && !decide (c = 35)

def pathIs (s : ByteArray) : Bool := runeAll pathRune s s.size 0 && hasPrefix s ⟨#[47]⟩ && decide (s.size ≤ 60)

set_option maxRecDepth 100000 in
theorem path_Is (s : ByteArray) : Pure Tryz.prog 158 [str s] (fun d => d = bln (pathIs s)) := by
  refine pure_of_run follows an_z6j2 Tryz.func158 rfl ok_z6j2 dst_z6j2 (by simp [Tryz.ntmps158]) ?_
  rw [run_start]
  simp only [ac_z6j2, go_sem, contS_seq, simprocAttr]
  refine loopS (fun k st => ∃ pos : Nat, s.size ≤ pos + k ∧ runeAll pathRune s k pos = runeAll pathRune s s.size 0 ∧
    st = ⟨[(0, str s), (6, .ptr 6 0)], [], [(6, .sit s pos)], .no⟩) s.size _ (Weak.refl _ _) ⟨0, by omega, rfl, rfl⟩ ?_
  rintro k st ⟨pos, hk, hr, rfl⟩
  by_cases hlt : pos < s.size
  · obtain ⟨k, rfl⟩ : ∃ m, k = m + 1 := ⟨k - 1, by omega⟩
    have hw := width_pos s pos
    simp only [runeAll, hlt, if_true] at hr
    simp only [go_sem, contS_seq, simprocAttr, hlt]
    obtain ⟨c, hc⟩ : ∃ c : Int, ((Utf8.decode s pos).1 : Int) = c := ⟨_, rfl⟩
    rw [hc] at hr ⊢
    have bad : ∀ (h : pathRune c = false), pathIs s = false := fun h => by
      rw [h] at hr
      simp only [Bool.false_and] at hr
      simp [pathIs, ← hr]
    repeat' (first | refine GifP.mk (fun _ => ?_) (fun _ => ?_) | refine Gif.mk (fun _ => ?_) (fun _ => ?_))
    iterate 4
      · simp only [retK, fullK, iterK, resD, resA, AOp.ex, St.ev, Option.map_some, Option.bind_some, St.get, lk, reduceIte, Nat.reduceEqDiff, Option.getD_some, oneD, List.getElem?_cons_zero, List.getElem?_cons_succ, List.drop_zero, List.drop_succ_cons, List.take_succ_cons, List.take_zero, List.length_cons, List.length_nil, Nat.zero_add, Nat.reduceAdd, Nat.le_refl, Nat.reduceLeDiff, D.pub, D.pubs, Tryz.results158]
        exact ⟨_, rfl, rfl, congrArg bln (bad (by simp [pathRune]; omega)).symm⟩
    · have hg : pathRune c = true := by simp [pathRune]; omega
      rw [hg, Bool.true_and] at hr
      refine ⟨k, _, ?_, ?_, pos + (Utf8.decode s pos).2, ?_, hr, rfl⟩
      · omega
      · exact Weak.less (by simp [lessL, lk]) (by simp [lessL, lk]) (by simp [lessL, lk]) rfl
      · omega
  · simp only [go_sem, contS_seq, simprocAttr, hlt]
    rw [runeAll_end hlt] at hr
    have hr' := hr.symm
    clear hr
    refine (strings_HasPrefix s _).callW (enters_of Tryz.func177 rfl rfl) _ rfl rfl ?_
    rintro d rfl
    simp only [go_sem, contS_seq, simprocAttr]
    repeat' (first | refine GifP.mk (fun _ => ?_) (fun _ => ?_) | refine Gif.mk (fun _ => ?_) (fun _ => ?_))
    all_goals
      simp only [retK, fullK, iterK, resD, resA, AOp.ex, St.ev, Option.map_some, Option.bind_some, St.get, lk, reduceIte, Nat.reduceEqDiff, Option.getD_some, oneD, List.getElem?_cons_zero, List.getElem?_cons_succ, List.drop_zero, List.drop_succ_cons, List.take_succ_cons, List.take_zero, List.length_cons, List.length_nil, Nat.zero_add, Nat.reduceAdd, Nat.le_refl, Nat.reduceLeDiff, D.pub, D.pubs, Tryz.results158]
      exact ⟨_, rfl, rfl, congrArg bln (by first | rfl | (rw [Bool.eq_iff_iff]; simp only [pathIs, hr']; simp; done) | (rw [Bool.eq_iff_iff]; simp only [pathIs, hr']; simp; omega) | (rw [Bool.eq_iff_iff]; simp only [pathIs, hr']; simp [*]; done) | (rw [Bool.eq_iff_iff]; simp only [pathIs, hr']; simp [*]; omega) | (simp_all [pathIs, hr']; done) | (exfalso; omega))⟩


def low (c : Int) : Int := IntKind.u8.wrap (BitVec.ofInt IntKind.u8.bits c ||| BitVec.ofInt IntKind.u8.bits 32).toNat

def foldO (c : Int) : Int := if 65 ≤ c ∧ c ≤ 90 then low c else c

structure FoldW (w : World) (s : ByteArray) (i : Nat) (wr : World) : Prop where
  below : Below w.heap.size w wr
  row : ∃ cs z, wr.heap[w.heap.size]? = some (.cells cs 5 z) ∧ s.size ≤ cs.size ∧ cs.size ≤ z.1 ∧ ∀ (j : Nat) b, s[j]? = some b → cs[j]? = some (.int .u8 (if j < i then foldO b.toNat else b.toNat))

theorem FoldW.next {w : World} {s : ByteArray} {i : Nat} {b : UInt8} (hb : s[i]? = some b) {cs : Array Value} {z : Nat × Nat} (h2 : s.size ≤ cs.size) (h3 : cs.size ≤ z.1)
    (h4 : ∀ (j : Nat) b, s[j]? = some b → cs[j]? = some (.int .u8 (if j < i then foldO b.toNat else b.toNat))) (cs' : Array Value) (W : World) (q1 : W.heap[w.heap.size]? = some (.cells cs' 5 z)) (q2 : cs'.size = cs.size) (q3 : Below w.heap.size w W)
    (q4 : ∀ j, j ≠ i → cs'[j]? = cs[j]?) (q5 : cs'[i]? = some (.int .u8 (foldO b.toNat))) : FoldW w s (i + 1) W :=
  ⟨q3, cs', z, q1, by omega, by omega, fun j b' hj => by
    by_cases e : j = i
    · subst e
      rw [hb] at hj; cases hj
      rw [if_pos (by omega)]; exact q5
    · rw [q4 j e, h4 j b' hj]
      by_cases e2 : j < i
      · rw [if_pos e2, if_pos (by omega)]
      · rw [if_neg e2, if_neg (by omega)]⟩

def fold (s : ByteArray) : ByteArray := octStr (s.data.toList.map fun b => foldO b.toNat)

set_option maxHeartbeats 1000000 in
theorem run_Fold (s : ByteArray) (hs : s.size ≤ 1000000) (w : World) :
    Calls Tryz.prog 163 #[.string s] w fun e w' => e = .returned (.string (fold s)) ∧ Below w.heap.size w w' := by
  have hconv := fun w' => Lib.run_convert_string_bytes (P := Tryz.prog) w' 9 203 5 s Tryz.underlying9 Tryz.underlying203 Tryz.underlying5
  go_enter Tryz.func163, Tryz.ntmps163
  go_wp2
  go_loopg [10] s.size (fun k c wr => ∃ i : Nat, k = s.size - i ∧ i ≤ s.size ∧ c = .int .i64 i ∧ FoldW w s i wr)
  case atStart =>
    have hcs : s.size ≤ (Lib.bytesCells w 5 s).size := by simp [Lib.bytesCells]
    refine ⟨0, rfl, Nat.zero_le _, rfl, ?_, _, _, Lib.bytesWorld_at_new w _ s, hcs, Nat.le_refl _, fun j b hb => ?_⟩
    · exact ⟨rfl, rfl, rfl, by rw [Lib.bytesWorld_size]; omega, fun k hk => Lib.bytesWorld_at_old w _ s k hk⟩
    · rw [if_neg (Nat.not_lt_zero j)]
      have hj : j < s.size := (List.getElem?_eq_some_iff.1 ((bytes_get s j).symm.trans hb)).1
      have hb' : s.data[j]? = some b := by rw [← Array.getElem?_toList, ← bytes_get]; exact hb
      simp only [Lib.bytesCells]
      rw [Array.getElem?_append_left (by simpa using hj), Array.getElem?_map, hb']
      rfl
  case round =>
    obtain ⟨i, hk, hi, rfl, hf⟩ := hrel
    obtain ⟨hbel, cs, z, h1, h2, h3, h4⟩ := hf
    by_cases hlt : i < s.size
    · obtain ⟨b, hb⟩ := at_byte hlt
      have hcs := h4 i b hb
      rw [if_neg (Nat.lt_irrefl i)] at hcs
      have hcell : wr.cell? ⟨w.heap.size, i, none⟩ = some (.int .u8 b.toNat) := by simp [World.cell?, h1, hcs]
      have hfz : wr.frozen? ⟨w.heap.size, i, none⟩ = false := by
        simp [World.frozen?, h1]; omega
      have hlt' : (i : Int) < (s.size : Int) := by omega
      go_wp2
      · have hset : (wr.setCell ⟨w.heap.size, i, none⟩ (.int .u8 (bits .or .u8 (b.toNat : Int) 32))).heap[w.heap.size]? = some (.cells (cs.setIfInBounds i (.int .u8 (bits .or .u8 (b.toNat : Int) 32))) 5 z) := by
          simp only [World.setCell, Array.getElem?_modify, if_true, h1, Option.map_some]
          rfl
        go_roundg (s.size - (i + 1))
        case measure => omega
        case rel =>
          refine ⟨i + 1, rfl, by omega, by simp, FoldW.next hb h2 h3 h4 _ _ hset (by simp) (hbel.setCell (Nat.le_refl _) _) (fun j hj => by simp [Array.getElem?_setIfInBounds, Ne.symm hj]) ?_⟩
          have hic : i < cs.size := by omega
          rw [Array.getElem?_setIfInBounds, if_pos rfl, if_pos hic]
          rw [foldO, if_pos (by omega)]
          rfl
      · go_roundg (s.size - (i + 1))
        case measure => omega
        case rel => exact ⟨i + 1, rfl, by omega, by simp, FoldW.next hb h2 h3 h4 _ _ h1 rfl hbel (fun _ _ => rfl) (by rw [hcs, foldO, if_neg (by omega)])⟩
      · go_roundg (s.size - (i + 1))
        case measure => omega
        case rel => exact ⟨i + 1, rfl, by omega, by simp, FoldW.next hb h2 h3 h4 _ _ h1 rfl hbel (fun _ _ => rfl) (by rw [hcs, foldO, if_neg (by omega)])⟩
    · have hi2 : i = s.size := by omega
      subst hi2
      have hload := run_loadCells_list (P := Tryz.prog) (w := wr) (⟨w.heap.size, 0, none⟩ : Addr) ((s.data.toList.map fun b => foldO b.toNat).map (Value.int .u8)) (fun j v hj => by
        rw [List.getElem?_map, List.getElem?_map] at hj
        cases hb : s.data.toList[j]? with
        | none => rw [hb] at hj; cases hj
        | some b =>
          rw [hb] at hj
          cases hj
          have hjs : j < s.size := (List.getElem?_eq_some_iff.1 hb).1
          have := h4 j b (by rw [bytes_get]; exact hb)
          rw [if_pos hjs] at this
          rw [add_off, Nat.zero_add]
          simp [World.cell?, h1, this])
      have hlen : ((s.data.toList.map fun b => foldO b.toNat).map (Value.int .u8)).length = s.size := by simp [size_list]
      rw [hlen] at hload
      have hback := run_bytesToString wr ⟨w.heap.size, 0, none⟩ s.size (grownCap w s.size 0 5) _ hload
      have hconv2 := (run_convert_bytes_string (P := Tryz.prog) wr 203 9 5 (some ⟨w.heap.size, 0, none⟩) s.size (grownCap w s.size 0 5) Tryz.underlying203 Tryz.underlying5 Tryz.underlying9).trans hback
      have hlt' : ¬ (s.size : Int) < (s.size : Int) := by omega
      go_wp2
      go_ret
      exact ⟨rfl, hbel⟩

theorem dns_Fold (s : ByteArray) (hs : s.size ≤ 1000000) : Pure Tryz.prog 163 [str s] (fun d => d = str (fold s)) := by
  intro Fz w us hlt hr
  simp only [Reps] at hr
  obtain ⟨x, r, rfl, hx, rfl⟩ := hr
  obtain rfl := rep_raw_inv hx
  refine (run_Fold s hs w).mono ?_
  rintro e w' ⟨rfl, hb⟩
  exact ⟨_, _, Fz, rfl, rfl, rfl, hb, fun b o hf => ⟨hf, hb.cell (hlt b o hf)⟩, fun b o hf => Nat.lt_of_lt_of_le (hlt b o hf) hb.size, fun _ _ h _ => h, by simp only [Rep]; exact .raw _ rfl⟩


theorem pathIs_size {s : ByteArray} (h : pathIs s = true) : s.size ≤ 1000000 := by
  simp only [pathIs, Bool.and_eq_true, decide_eq_true_eq] at h
  omega

def pathAbove (s : ByteArray) : Bool := pathIs s && (decide (s = ⟨#[47]⟩) || !hasSuffix s ⟨#[47]⟩)

theorem path_above (s : ByteArray) : Pure Tryz.prog 159 [str s] (fun d => d = bln (pathAbove s)) := by
  refine pure_of_run follows an_zgeto Tryz.func159 rfl ok_zgeto dst_zgeto (by simp [Tryz.ntmps159]) ?_
  rw [run_start]
  simp only [ac_zgeto, go_sem, contS_seq, simprocAttr]
  (repeat' (first | (refine GifP.mk (fun _ => ?_) (fun _ => ?_)) | (refine Gif.mk (fun _ => ?_) (fun _ => ?_)) | ((first | refine (path_Is _).callW (enters_of Tryz.func158 rfl rfl) _ rfl rfl ?_ | refine (strings_HasSuffix _ _ (pathIs_size (by assumption))).callW (enters_of Tryz.func178 rfl rfl) _ rfl rfl ?_); rintro _ rfl; try simp only [go_sem, contS_seq, simprocAttr]))) <;> (simp only [retK, fullK, iterK, resD, resA, AOp.ex, St.ev, Option.map_some, Option.bind_some, St.get, lk, reduceIte, Nat.reduceEqDiff, Option.getD_some, oneD, List.getElem?_cons_zero, List.getElem?_cons_succ, List.drop_zero, List.drop_succ_cons, List.take_succ_cons, List.take_zero, List.length_cons, List.length_nil, Nat.zero_add, Nat.reduceAdd, Nat.le_refl, Nat.reduceLeDiff, D.pub, D.pubs, Tryz.results159]; exact ⟨_, rfl, rfl, congrArg bln (by first | rfl | (rw [Bool.eq_iff_iff]; simp only [pathAbove]; simp; done) | (rw [Bool.eq_iff_iff]; simp only [pathAbove]; simp; omega) | (rw [Bool.eq_iff_iff]; simp only [pathAbove]; simp [*]; done) | (rw [Bool.eq_iff_iff]; simp only [pathAbove]; simp [*]; omega) | (simp_all [pathAbove]; done) | (exfalso; omega))⟩)

def pathMay (k : Int) (v : ByteArray) : Bool := (decide (k = 1) && pathIs v) || (decide (k = 2) && pathAbove v)

theorem path_May (k : Int) (v : ByteArray) : Pure Tryz.prog 133 [.agg [int k, str v]] (fun d => d = bln (pathMay k v)) := by
  refine pure_of_run follows an_z2uwa Tryz.func133 rfl ok_z2uwa dst_z2uwa (by simp [Tryz.ntmps133]) ?_
  rw [run_start]
  simp only [ac_z2uwa, go_sem, contS_seq, simprocAttr]
  (repeat' (first | (refine GifP.mk (fun _ => ?_) (fun _ => ?_)) | (refine Gif.mk (fun _ => ?_) (fun _ => ?_)) | ((first | refine (path_Is _).callW (enters_of Tryz.func158 rfl rfl) _ rfl rfl ?_ | refine (path_above _).callW (enters_of Tryz.func159 rfl rfl) _ rfl rfl ?_); rintro _ rfl; try simp only [go_sem, contS_seq, simprocAttr]))) <;> (simp only [retK, fullK, iterK, resD, resA, AOp.ex, St.ev, Option.map_some, Option.bind_some, St.get, lk, reduceIte, Nat.reduceEqDiff, Option.getD_some, oneD, List.getElem?_cons_zero, List.getElem?_cons_succ, List.drop_zero, List.drop_succ_cons, List.take_succ_cons, List.take_zero, List.length_cons, List.length_nil, Nat.zero_add, Nat.reduceAdd, Nat.le_refl, Nat.reduceLeDiff, D.pub, D.pubs, Tryz.results133]; exact ⟨_, rfl, rfl, congrArg bln (by first | rfl | (rw [Bool.eq_iff_iff]; simp only [pathMay]; simp; done) | (rw [Bool.eq_iff_iff]; simp only [pathMay]; simp; omega) | (rw [Bool.eq_iff_iff]; simp only [pathMay]; simp [*]; done) | (rw [Bool.eq_iff_iff]; simp only [pathMay]; simp [*]; omega) | (simp_all [pathMay]; done) | (exfalso; omega))⟩)

def methodRune (c : Int) : Bool := decide (65 ≤ c) && decide (c ≤ 90)

theorem rule_Method_1 (c : Int) : Pure Tryz.prog 160 [i32 c] (fun d => d = bln (!methodRune c)) := by
  refine pure_of_run follows an_zluy0 Tryz.func160 rfl ok_zluy0 dst_zluy0 (by simp [Tryz.ntmps160]) ?_
  rw [run_start]
  simp only [ac_zluy0, go_sem, contS_seq, simprocAttr]
  (repeat' (first | (refine GifP.mk (fun _ => ?_) (fun _ => ?_)) | (refine Gif.mk (fun _ => ?_) (fun _ => ?_)))) <;> (simp only [retK, fullK, iterK, resD, resA, AOp.ex, St.ev, Option.map_some, Option.bind_some, St.get, lk, reduceIte, Nat.reduceEqDiff, Option.getD_some, oneD, List.getElem?_cons_zero, List.getElem?_cons_succ, List.drop_zero, List.drop_succ_cons, List.take_succ_cons, List.take_zero, List.length_cons, List.length_nil, Nat.zero_add, Nat.reduceAdd, Nat.le_refl, Nat.reduceLeDiff, D.pub, D.pubs, Tryz.results160]; exact ⟨_, rfl, rfl, congrArg bln (by first | rfl | (rw [Bool.eq_iff_iff]; simp only [methodRune]; simp; done) | (rw [Bool.eq_iff_iff]; simp only [methodRune]; simp; omega) | (rw [Bool.eq_iff_iff]; simp only [methodRune]; simp [*]; done) | (rw [Bool.eq_iff_iff]; simp only [methodRune]; simp [*]; omega) | (simp_all [methodRune]; done) | (exfalso; omega))⟩)

def method (s : ByteArray) : Bool := !decide (s = ⟨#[]⟩) && decide (s.size ≤ 10) && decide (runeIdx (fun c => !methodRune c) s s.size 0 < 0)

theorem rule_Method (s : ByteArray) : Pure Tryz.prog 134 [str s] (fun d => d = bln (method s)) := by
  refine pure_of_run follows an_zjt8m Tryz.func134 rfl ok_zjt8m dst_zjt8m (by simp [Tryz.ntmps134]) ?_
  rw [run_start]
  simp only [ac_zjt8m, go_sem, contS_seq, simprocAttr]
  (repeat' (first | (refine GifP.mk (fun _ => ?_) (fun _ => ?_)) | (refine Gif.mk (fun _ => ?_) (fun _ => ?_)) | (refine (strings_IndexFunc _ _ (enters_of Tryz.func160 rfl rfl) rule_Method_1 _).callW (enters_of Tryz.func110 rfl rfl) _ rfl rfl ?_; rintro _ rfl; try simp only [go_sem, contS_seq, simprocAttr]))) <;> (simp only [retK, fullK, iterK, resD, resA, AOp.ex, St.ev, Option.map_some, Option.bind_some, St.get, lk, reduceIte, Nat.reduceEqDiff, Option.getD_some, oneD, List.getElem?_cons_zero, List.getElem?_cons_succ, List.drop_zero, List.drop_succ_cons, List.take_succ_cons, List.take_zero, List.length_cons, List.length_nil, Nat.zero_add, Nat.reduceAdd, Nat.le_refl, Nat.reduceLeDiff, D.pub, D.pubs, Tryz.results134]; exact ⟨_, rfl, rfl, congrArg bln (by first | rfl | (rw [Bool.eq_iff_iff]; simp only [method]; simp; done) | (rw [Bool.eq_iff_iff]; simp only [method]; simp; omega) | (rw [Bool.eq_iff_iff]; simp only [method]; simp [*]; done) | (rw [Bool.eq_iff_iff]; simp only [method]; simp [*]; omega) | (simp_all [method]; done) | (exfalso; omega))⟩)

def pairMay (p : APair) : Bool := !decide (p.name = ⟨#[]⟩) && decide (p.name.size ≤ 40) && decide (p.val.size ≤ 40)

def queryMay (l : List APair) : Bool := l.all pairMay && decide (l.length ≤ 20)

set_option maxRecDepth 100000 in
theorem query_May (l : List APair) (hl : l.length ≤ 1000000) : Pure Tryz.prog 138 [.pd (.slice (rows APair.pd l))] (fun d => d = bln (queryMay l)) := by
  refine pure_of_run follows an_zr0tf Tryz.func138 rfl ok_zr0tf dst_zr0tf (by simp [Tryz.ntmps138]) ?_
  rw [run_start]
  simp only [ac_zr0tf, go_sem, contS_seq, simprocAttr, rows_len]
  refine loopS (fun k st => ∃ i : Nat, k = l.length - i ∧ i ≤ l.length ∧ (l.drop i).all pairMay = l.all pairMay ∧
    st = ⟨[(0, .pd (.slice (rows APair.pd l))), (5, .pd (.slice (rows APair.pd l))), (6, int l.length), (7, int i)], [], [], .no⟩) l.length _ (Weak.refl _ _) ⟨0, rfl, Nat.zero_le _, rfl, rfl⟩ ?_
  rintro k st ⟨i, rfl, hi, hr, rfl⟩
  by_cases hlt : i < l.length
  · obtain ⟨x, hx⟩ := at_lt hlt
    have hlt' : ((i : Int) < (l.length : Int)) = True := by simp; omega
    rw [drop_at hx, List.all_cons] at hr
    have bad : pairMay x = false → queryMay l = false := fun h => by
      rw [h, Bool.false_and] at hr
      simp [queryMay, ← hr]
    simp only [go_sem, contS_seq, simprocAttr, hlt', rows_get hx, i64_succ (show i < 1000000000 by omega)]
    repeat' (first | refine GifP.mk (fun _ => ?_) (fun _ => ?_) | refine Gif.mk (fun _ => ?_) (fun _ => ?_))
    iterate 3
      · simp only [retK, fullK, iterK, resD, resA, AOp.ex, St.ev, Option.map_some, Option.bind_some, St.get, lk, reduceIte, Nat.reduceEqDiff, Option.getD_some, oneD, List.getElem?_cons_zero, List.getElem?_cons_succ, List.drop_zero, List.drop_succ_cons, List.take_succ_cons, List.take_zero, List.length_cons, List.length_nil, Nat.zero_add, Nat.reduceAdd, Nat.le_refl, Nat.reduceLeDiff, D.pub, D.pubs, Tryz.results138]
        exact ⟨_, rfl, rfl, congrArg bln (bad (by simp [pairMay, *]; try omega)).symm⟩
    · have hg : pairMay x = true := by simp [pairMay, *]; omega
      rw [hg, Bool.true_and] at hr
      refine ⟨l.length - (i + 1), _, ?_, ?_, i + 1, rfl, ?_, hr, rfl⟩
      · omega
      · exact Weak.less (by simp [lessL, lk]) (by simp [lessL, lk]) (by simp [lessL, lk]) rfl
      · omega
  · have hlt' : ((i : Int) < (l.length : Int)) = False := by simp; omega
    rw [List.drop_eq_nil_of_le (by omega)] at hr
    have hr' := hr.symm
    rw [List.all_nil] at hr'
    simp only [go_sem, contS_seq, simprocAttr, rows_len, hlt']
    repeat' (first | refine GifP.mk (fun _ => ?_) (fun _ => ?_) | refine Gif.mk (fun _ => ?_) (fun _ => ?_))
    all_goals
      simp only [retK, fullK, iterK, resD, resA, AOp.ex, St.ev, Option.map_some, Option.bind_some, St.get, lk, reduceIte, Nat.reduceEqDiff, Option.getD_some, oneD, List.getElem?_cons_zero, List.getElem?_cons_succ, List.drop_zero, List.drop_succ_cons, List.take_succ_cons, List.take_zero, List.length_cons, List.length_nil, Nat.zero_add, Nat.reduceAdd, Nat.le_refl, Nat.reduceLeDiff, D.pub, D.pubs, Tryz.results138]
      exact ⟨_, rfl, rfl, congrArg bln (by first | rfl | (rw [Bool.eq_iff_iff]; simp only [queryMay, hr']; simp; done) | (rw [Bool.eq_iff_iff]; simp only [queryMay, hr']; simp; omega) | (rw [Bool.eq_iff_iff]; simp only [queryMay, hr']; simp [*]; done) | (rw [Bool.eq_iff_iff]; simp only [queryMay, hr']; simp [*]; omega) | (simp_all [queryMay, hr']; done) | (exfalso; omega))⟩

def marks : ByteArray := ⟨#[33, 35, 36, 37, 38, 39, 42, 43, 45, 46, 94, 95, 96, 124, 126]⟩

def tokenOct (b : UInt8) : Bool := (decide (97 ≤ low b.toNat) && decide (low b.toNat ≤ 122)) || (decide (48 ≤ b.toNat) && decide (b.toNat ≤ 57)) || decide (0 ≤ Lib.indexByte marks.data.toList b)

def token (s : ByteArray) : Bool := s.data.toList.all tokenOct && !decide (s = ⟨#[]⟩) && decide (s.size ≤ 40)

theorem toNat_u8 (b : UInt8) : ((b.toNat : Int)).toNat.toUInt8 = b := by simp

theorem pairs_Token (s : ByteArray) (hs : s.size ≤ 1000000) : Pure Tryz.prog 131 [str s] (fun d => d = bln (token s)) := by
  refine pure_of_run follows an_zwtth Tryz.func131 rfl ok_zwtth dst_zwtth (by simp [Tryz.ntmps131]) ?_
  rw [run_start]
  simp only [ac_zwtth, go_sem, contS_seq, simprocAttr, rows_len]
  refine loopS (fun k st => ∃ i : Nat, k = s.size - i ∧ i ≤ s.size ∧ (s.data.toList.drop i).all tokenOct = s.data.toList.all tokenOct ∧
    st = ⟨[(0, str s), (6, int s.size), (7, int i)], [], [], .no⟩) s.size _ (Weak.refl _ _) ⟨0, rfl, Nat.zero_le _, rfl, rfl⟩ ?_
  rintro k st ⟨i, rfl, hi, hr, rfl⟩
  by_cases hlt : i < s.size
  · obtain ⟨b, hb, hd⟩ := byte_at hlt
    have hlt' : ((i : Int) < (s.size : Int)) = True := by simp; omega
    rw [hd, List.all_cons] at hr
    have bad : tokenOct b = false → token s = false := fun h => by
      rw [h, Bool.false_and] at hr
      simp only [token, ← hr, Bool.false_and]
    have hlow : IntKind.u8.wrap (BitVec.ofInt IntKind.u8.bits (b.toNat : Int) ||| BitVec.ofInt IntKind.u8.bits 32).toNat = low b.toNat := rfl
    have hw := i64_succ (show i < 1000000000 by omega)
    simp only [go_sem, contS_seq, simprocAttr, hlt', hb, hw, ↓hlow]
    have good : tokenOct b = true → ∀ st, Weak Tryz.prog st ⟨[(0, str s), (6, int s.size), (7, int (i + 1 : Nat))], [], [], .no⟩ → Round Tryz.prog (fun k st => ∃ i : Nat, k = s.size - i ∧ i ≤ s.size ∧ (s.data.toList.drop i).all tokenOct = s.data.toList.all tokenOct ∧
        st = ⟨[(0, str s), (6, int s.size), (7, int i)], [], [], .no⟩) (s.size - i) st := fun h st hw => by
      rw [h, Bool.true_and] at hr
      exact ⟨s.size - (i + 1), _, by omega, hw, i + 1, rfl, by omega, hr, rfl⟩
    repeat' (first | refine GifP.mk (fun _ => ?_) (fun _ => ?_) | refine Gif.mk (fun _ => ?_) (fun _ => ?_) | (refine (strings_IndexByte _ _).callW (enters_of Tryz.func156 rfl rfl) _ rfl rfl ?_; rintro _ rfl; rw [toNat_u8]; simp only [go_sem, contS_seq, simprocAttr, hw]))
    all_goals first
      | (refine good (by simp [tokenOct, marks, *]; try omega) _ ?_; exact Weak.less (by simp [lessL, lk]) (by simp [lessL, lk]) (by simp [lessL, lk]) rfl)
      | (simp only [retK, fullK, iterK, resD, resA, AOp.ex, St.ev, Option.map_some, Option.bind_some, St.get, lk, reduceIte, Nat.reduceEqDiff, Option.getD_some, oneD, List.getElem?_cons_zero, List.getElem?_cons_succ, List.drop_zero, List.drop_succ_cons, List.take_succ_cons, List.take_zero, List.length_cons, List.length_nil, Nat.zero_add, Nat.reduceAdd, Nat.le_refl, Nat.reduceLeDiff, D.pub, D.pubs, Tryz.results131]
         exact ⟨_, rfl, rfl, congrArg bln (bad (by simp [tokenOct, marks, *]; try omega)).symm⟩)
  · have hlt' : ((i : Int) < (s.size : Int)) = False := by simp; omega
    rw [byte_end hlt] at hr
    have hr' := hr.symm
    rw [List.all_nil] at hr'
    simp only [go_sem, contS_seq, simprocAttr, rows_len, hlt']
    repeat' (first | refine GifP.mk (fun _ => ?_) (fun _ => ?_) | refine Gif.mk (fun _ => ?_) (fun _ => ?_))
    all_goals
      simp only [retK, fullK, iterK, resD, resA, AOp.ex, St.ev, Option.map_some, Option.bind_some, St.get, lk, reduceIte, Nat.reduceEqDiff, Option.getD_some, oneD, List.getElem?_cons_zero, List.getElem?_cons_succ, List.drop_zero, List.drop_succ_cons, List.take_succ_cons, List.take_zero, List.length_cons, List.length_nil, Nat.zero_add, Nat.reduceAdd, Nat.le_refl, Nat.reduceLeDiff, D.pub, D.pubs, Tryz.results131]
      exact ⟨_, rfl, rfl, congrArg bln (by first | rfl | (rw [Bool.eq_iff_iff]; simp only [token, hr']; simp; done) | (rw [Bool.eq_iff_iff]; simp only [token, hr']; simp; omega) | (rw [Bool.eq_iff_iff]; simp only [token, hr']; simp [*]; done) | (rw [Bool.eq_iff_iff]; simp only [token, hr']; simp [*]; omega) | (simp_all [token, hr']; done) | (exfalso; omega))⟩

def trimL (c : Int) : Nat → ByteArray → ByteArray
  | 0, s => s
  | f + 1, s => match s[0]? with
    | some b => if (b.toNat : Int) = c then trimL c f (s.extract 1 s.size) else s
    | none => s

def trimR (c : Int) : Nat → ByteArray → ByteArray
  | 0, s => s
  | f + 1, s => match s[s.size - 1]? with
    | some b => if (b.toNat : Int) = c then trimR c f (s.extract 0 (s.size - 1)) else s
    | none => s

theorem byte_none {s : ByteArray} {i : Nat} (h : ¬ i < s.size) : s[i]? = none := by rw [bytes_get]; exact List.getElem?_eq_none (by rw [size_list]; omega)

theorem strings_trimLeftByte (s : ByteArray) (c : Int) : Pure Tryz.prog 170 [str s, u8 c] (fun d => d = str (trimL c s.size s)) := by
  refine pure_of_run follows an_zu0fc Tryz.func170 rfl ok_zu0fc dst_zu0fc (by simp [Tryz.ntmps170]) ?_
  rw [run_start]
  simp only [ac_zu0fc, go_sem, contS_seq, simprocAttr]
  refine loopS (fun k st => ∃ r : ByteArray, r.size ≤ k ∧ trimL c k r = trimL c s.size s ∧
    st = ⟨[(0, str r), (1, u8 c)], [], [], .no⟩) s.size _ (Weak.refl _ _) ⟨s, Nat.le_refl _, rfl, rfl⟩ ?_
  rintro k st ⟨r, hk, hr, rfl⟩
  by_cases hlt : 0 < r.size
  · obtain ⟨b, hb⟩ := at_byte hlt
    obtain ⟨k, rfl⟩ : ∃ m, k = m + 1 := ⟨k - 1, by omega⟩
    have h1 : ((0 : Int) < (r.size : Int)) = True := eq_true (by omega)
    have h2 : (1 ≤ r.size) = True := by simp; omega
    have h3 : (r.extract 1 r.size).size = r.size - 1 := by simp [ByteArray.size_extract]
    simp only [trimL, hb] at hr
    simp only [go_sem, contS_seq, simprocAttr, h1, hb, h2]
    refine GifP.mk (fun h => ?_) (fun h => ?_)
    · rw [if_pos h] at hr
      refine ⟨k, _, ?_, ?_, r.extract 1 r.size, ?_, hr, rfl⟩
      · omega
      · exact Weak.less (by simp [lessL, lk]) (by simp [lessL, lk]) (by simp [lessL, lk]) rfl
      · omega
    · rw [if_neg h] at hr
      simp only [retK, fullK, iterK, resD, resA, AOp.ex, St.ev, Option.map_some, Option.bind_some, St.get, lk, reduceIte, Nat.reduceEqDiff, Option.getD_some, oneD, List.getElem?_cons_zero, List.getElem?_cons_succ, List.drop_zero, List.drop_succ_cons, List.take_succ_cons, List.take_zero, List.length_cons, List.length_nil, Nat.zero_add, Nat.reduceAdd, Nat.le_refl, Nat.reduceLeDiff, D.pub, D.pubs, Tryz.results170]
      exact ⟨_, rfl, rfl, congrArg (fun x => str x) hr⟩
  · have h1 : ((0 : Int) < (r.size : Int)) = False := eq_false (by omega)
    have hn : trimL c k r = r := by
      cases k with
      | zero => rfl
      | succ k => simp only [trimL, byte_none hlt]
    rw [hn] at hr
    simp only [go_sem, contS_seq, simprocAttr, h1]
    simp only [retK, fullK, iterK, resD, resA, AOp.ex, St.ev, Option.map_some, Option.bind_some, St.get, lk, reduceIte, Nat.reduceEqDiff, Option.getD_some, oneD, List.getElem?_cons_zero, List.getElem?_cons_succ, List.drop_zero, List.drop_succ_cons, List.take_succ_cons, List.take_zero, List.length_cons, List.length_nil, Nat.zero_add, Nat.reduceAdd, Nat.le_refl, Nat.reduceLeDiff, D.pub, D.pubs, Tryz.results170]
    exact ⟨_, rfl, rfl, congrArg (fun x => str x) hr⟩

theorem strings_trimRightByte (s : ByteArray) (c : Int) (hs : s.size ≤ 1000000) : Pure Tryz.prog 171 [str s, u8 c] (fun d => d = str (trimR c s.size s)) := by
  refine pure_of_run follows an_zdteh Tryz.func171 rfl ok_zdteh dst_zdteh (by simp [Tryz.ntmps171]) ?_
  rw [run_start]
  simp only [ac_zdteh, go_sem, contS_seq, simprocAttr]
  refine loopS (fun k st => ∃ r : ByteArray, r.size ≤ k ∧ r.size ≤ 1000000 ∧ trimR c k r = trimR c s.size s ∧
    st = ⟨[(0, str r), (1, u8 c)], [], [], .no⟩) s.size _ (Weak.refl _ _) ⟨s, Nat.le_refl _, hs, rfl, rfl⟩ ?_
  rintro k st ⟨r, hk, hrs, hr, rfl⟩
  by_cases hlt : 0 < r.size
  · obtain ⟨b, hb⟩ := at_byte (show r.size - 1 < r.size by omega)
    obtain ⟨k, rfl⟩ : ∃ m, k = m + 1 := ⟨k - 1, by omega⟩
    have h1 : ((0 : Int) < (r.size : Int)) = True := eq_true (by omega)
    have h2 : (r.size - 1 ≤ r.size) = True := by simp
    have h3 : (r.extract 0 (r.size - 1)).size = r.size - 1 := by simp [ByteArray.size_extract]
    have hw : IntKind.i64.wrap ((r.size : Int) - 1) = ((r.size - 1 : Nat) : Int) := by rw [IntWalk.i64_in _ (by omega)]; omega
    simp only [trimR, hb] at hr
    simp only [go_sem, contS_seq, simprocAttr, h1, hw, hb, h2]
    refine GifP.mk (fun h => ?_) (fun h => ?_)
    · rw [if_pos h] at hr
      refine ⟨k, _, ?_, ?_, r.extract 0 (r.size - 1), ?_, ?_, hr, rfl⟩
      · omega
      · exact Weak.less (by simp [lessL, lk]) (by simp [lessL, lk]) (by simp [lessL, lk]) rfl
      · omega
      · omega
    · rw [if_neg h] at hr
      simp only [retK, fullK, iterK, resD, resA, AOp.ex, St.ev, Option.map_some, Option.bind_some, St.get, lk, reduceIte, Nat.reduceEqDiff, Option.getD_some, oneD, List.getElem?_cons_zero, List.getElem?_cons_succ, List.drop_zero, List.drop_succ_cons, List.take_succ_cons, List.take_zero, List.length_cons, List.length_nil, Nat.zero_add, Nat.reduceAdd, Nat.le_refl, Nat.reduceLeDiff, D.pub, D.pubs, Tryz.results171]
      exact ⟨_, rfl, rfl, congrArg (fun x => str x) hr⟩
  · have h1 : ((0 : Int) < (r.size : Int)) = False := eq_false (by omega)
    have hn : trimR c k r = r := by
      cases k with
      | zero => rfl
      | succ k => simp only [trimR, byte_none (show ¬ r.size - 1 < r.size by omega)]
    rw [hn] at hr
    simp only [go_sem, contS_seq, simprocAttr, h1]
    simp only [retK, fullK, iterK, resD, resA, AOp.ex, St.ev, Option.map_some, Option.bind_some, St.get, lk, reduceIte, Nat.reduceEqDiff, Option.getD_some, oneD, List.getElem?_cons_zero, List.getElem?_cons_succ, List.drop_zero, List.drop_succ_cons, List.take_succ_cons, List.take_zero, List.length_cons, List.length_nil, Nat.zero_add, Nat.reduceAdd, Nat.le_refl, Nat.reduceLeDiff, D.pub, D.pubs, Tryz.results171]
    exact ⟨_, rfl, rfl, congrArg (fun x => str x) hr⟩

def trim (s : ByteArray) : ByteArray := trimL 32 (trimR 32 s.size s).size (trimR 32 s.size s)

theorem strings_Trim (s : ByteArray) (hs : s.size ≤ 1000000) : Pure Tryz.prog 157 [str s, str ⟨#[32]⟩] (fun d => d = str (trim s)) := by
  refine pure_of_run follows an_zmas7 Tryz.func157 rfl ok_zmas7 dst_zmas7 (by simp [Tryz.ntmps157]) ?_
  rw [run_start]
  have h1 : (ByteArray.mk #[32]).size = 1 := rfl
  have h2 : (ByteArray.mk #[32])[0]? = some 32 := rfl
  have h3 : ((1 : Nat) : Int) = 1 := rfl
  have h4 : (ByteArray.mk #[32] = ByteArray.mk #[]) = False := by simp
  have h5 : ((UInt8.toNat 32 : Nat) : Int) = 32 := rfl
  simp only [ac_zmas7, go_sem, contS_seq, simprocAttr, go_sem, h1, h2, h3, h4, h5]
  refine GifP.mk (fun he => ?_) (fun he => ?_)
  · simp only [retK, fullK, iterK, resD, resA, AOp.ex, St.ev, Option.map_some, Option.bind_some, St.get, lk, reduceIte, Nat.reduceEqDiff, Option.getD_some, oneD, List.getElem?_cons_zero, List.getElem?_cons_succ, List.drop_zero, List.drop_succ_cons, List.take_succ_cons, List.take_zero, List.length_cons, List.length_nil, Nat.zero_add, Nat.reduceAdd, Nat.le_refl, Nat.reduceLeDiff, D.pub, D.pubs, Tryz.results157]
    refine ⟨_, rfl, rfl, congrArg (fun x => str x) ?_⟩
    subst he; rfl
  · refine (strings_trimRightByte s 32 hs).callX (enters_of Tryz.func171 rfl rfl) _ rfl rfl ?_
    rintro d rfl
    simp only [go_sem, contS_seq, simprocAttr, go_sem, h1, h2, h5]
    refine (strings_trimLeftByte _ 32).callX (enters_of Tryz.func170 rfl rfl) _ rfl rfl ?_
    rintro d rfl
    simp only [go_sem, contS_seq, simprocAttr, go_sem]
    simp only [retK, fullK, iterK, resD, resA, AOp.ex, St.ev, Option.map_some, Option.bind_some, St.get, lk, reduceIte, Nat.reduceEqDiff, Option.getD_some, oneD, List.getElem?_cons_zero, List.getElem?_cons_succ, List.drop_zero, List.drop_succ_cons, List.take_succ_cons, List.take_zero, List.length_cons, List.length_nil, Nat.zero_add, Nat.reduceAdd, Nat.le_refl, Nat.reduceLeDiff, D.pub, D.pubs, Tryz.results157]
    exact ⟨_, rfl, rfl, rfl⟩


abbrev idr (bs : List (Nat × List D)) : List (Nat × Nat) := bs.map fun p => (p.1, p.1)
def capD (caps : List (Nat × Nat)) : List D := caps.map fun c => .ptr c.1 c.2

def dnd : List Nat → Bool
  | [] => true
  | a :: l => !l.contains a && dnd l

structure Cl (bs : List (Nat × List D)) (caps : List (Nat × Nat)) : Prop where
  ok : renOK (idr bs) = true
  see : seeBs (idr bs) bs (idr bs) = bs
  cap : D.sees (idr bs) (capD caps) = capD caps
  capf : seeCaps (idr bs) caps = some caps
  nd : dnd (bs.map (·.1)) = true

theorem Cl.of {bs : List (Nat × List D)} {caps : List (Nat × Nat)} (h1 : renOK (idr bs) = true) (h2 : seeBs (idr bs) bs (idr bs) = bs) (h3 : D.sees (idr bs) (capD caps) = capD caps) (h4 : seeCaps (idr bs) caps = some caps) (h5 : dnd (bs.map (·.1)) = true) : Cl bs caps := ⟨h1, h2, h3, h4, h5⟩

theorem Cl.args {bs : List (Nat × List D)} {caps : List (Nat × Nat)} (h : Cl bs caps) {d : D} (hd : D.see (idr bs) d = d) : D.sees (idr bs) (d :: capD caps) = d :: capD caps := by
  rw [D.sees, hd, h.cap]

theorem Cl.two {bs : List (Nat × List D)} {caps : List (Nat × Nat)} (h : Cl bs caps) {x : PD} {g : FuncId} : D.sees (idr bs) [.pd x, .fn g caps] = [.pd x, .fn g caps] := by
  simp only [D.sees, D.see, h.capf]

theorem lk_none {α : Type} {n : Nat} : ∀ {l : List (Nat × α)}, (l.map (·.1)).contains n = false → lk l n = none
  | [], _ => rfl
  | (m, d) :: l, h => by
    simp only [List.map_cons, List.contains_cons, Bool.or_eq_false_iff, beq_eq_false_iff_ne] at h
    simp only [lk, if_neg h.1]
    exact lk_none h.2

theorem lessL_of {α : Type} : ∀ {r l : List (Nat × α)}, (∀ p ∈ r, lk l p.1 = some p.2) → lessL r l
  | [], _, _ => trivial
  | _ :: _, _, h => ⟨h _ (List.mem_cons_self ..), lessL_of fun p hp => h p (List.mem_cons_of_mem _ hp)⟩

theorem lk_mem_nd {α : Type} : ∀ {l : List (Nat × α)}, dnd (l.map (·.1)) = true → ∀ p ∈ l, lk l p.1 = some p.2
  | [], _, _, h => by cases h
  | (m, d) :: l, hn, p, h => by
    simp only [List.map_cons, dnd, Bool.and_eq_true, Bool.not_eq_true'] at hn
    rcases List.mem_cons.1 h with rfl | h
    · simp [lk]
    · have hne : p.1 ≠ m := fun e => by
        have : (l.map (·.1)).contains m = true := by rw [List.contains_iff_mem]; exact List.mem_map.2 ⟨p, h, e⟩
        rw [hn.1] at this; cases this
      simp only [lk, if_neg hne]
      exact lk_mem_nd hn.2 p h

theorem lessL_refl {α : Type} {l : List (Nat × α)} (h : dnd (l.map (·.1)) = true) : lessL l l := lessL_of (lk_mem_nd h)

theorem Mem.toNfn {P : Program} {w0 : World} {Fz0 : Nat → Nat → Prop} {S : Nat → Prop} {N : Nat} {bs : List (Nat × List D)} {ms : List (Nat × MO)} {g : Gh} {w : World} (m : Mem (.fn P w0 Fz0 S N) bs ms g w) (N' : Nat) : Mem (.fn P w0 Fz0 S N') bs ms g w where
  os := m.os
  tape := m.tape
  output := m.output
  hsz := m.hsz
  old := m.old
  keep := m.keep
  newfz := m.newfz
  fzlt := m.fzlt
  bxs := m.bxs
  mps := m.mps
  bxok := m.bxok
  bxinj := m.bxinj
  tks := m.tks
  tkinj := m.tkinj
  bxtk := m.bxtk
  dfs := m.dfs
  dnd := m.dnd
  bxdf := m.bxdf
  bxdm := m.bxdm

theorem PureB.pure {P : Program} {f : FuncId} {args : List D} {R : D → Prop} (h : PureB P f args [] R) : Pure P f args R := by
  intro Fz w vs hlt hr
  exact h (gh0 Fz) w vs rfl rfl (fun N => (init_SR (P := P) (N := args.length) (Nat.le_refl _) hlt hr).mem.toNfn N) hr

theorem Pure.pureB {P : Program} {f : FuncId} {args : List D} {R : D → Prop} (h : Pure P f args R) (hc : D.closeds args = true) : PureB P f args [] R := by
  intro g0 w vs _ _ hm hr
  exact h g0.Fz w vs (hm 0).fzlt (Reps.close (g := g0) (g' := gh0 g0.Fz) (Ex.refl _ _) hc hr)

def lidx {α : Type} (p : α → Bool) : List α → Nat → Int
  | [], _ => -1
  | x :: l, i => if p x = true then (i : Int) else lidx p l (i + 1)

theorem lidx_any' {α : Type} (p : α → Bool) : ∀ (l : List α) (i : Nat), decide (0 ≤ lidx p l i) = l.any p
  | [], _ => by simp [lidx]
  | x :: l, i => by
    rw [lidx, List.any_cons]
    by_cases h : p x = true
    · rw [if_pos h, h]; simp
    · rw [if_neg h, lidx_any' p l (i + 1)]; simp at h; simp [h]

theorem lidx_any {α : Type} (p : α → Bool) (l : List α) : decide (0 ≤ lidx p l 0) = l.any p := lidx_any' p l 0

def every {α : Type} (p : α → Bool) (l : List α) (n : Int) : Bool := decide ((l.length : Int) ≤ n) && l.all p

def twiceFrom {α : Type} (q : α → α → Bool) (l : List α) : Nat → Nat → Bool
  | 0, _ => false
  | k + 1, i => (match l[i]? with
    | some x => (l.take i).any fun y => q x y
    | none => false) || twiceFrom q l k (i + 1)

def twice {α : Type} (q : α → α → Bool) (l : List α) : Bool := twiceFrom q l l.length 0

abbrev ASide.d (s : ASide) : D := .agg [int s.kind, str s.space, str s.name]
abbrev APair.d (p : APair) : D := .agg [str p.name, str p.val]
abbrev ANeed.d (n : ANeed) : D := .agg [int n.kind, str n.name, .pd (.slice (strs n.vals))]
abbrev AListener.d (l : AListener) : D := .agg [str l.name, int l.port, bln l.tls, str l.host, int l.cert.kind, str l.cert.space, str l.cert.name, int l.from_, .pd (.slice (rows ANeed.pd l.needs))]
abbrev AParent.d (p : AParent) : D := .agg [str p.space, str p.name, str p.section_, int p.port]
abbrev AMatch.d (m : AMatch) : D := .agg [int m.pkind, str m.pval, str m.method, .pd (.slice (rows APair.pd m.head)), .pd (.slice (rows APair.pd m.query))]
abbrev AFilter.d (f : AFilter) : D := .agg [int f.kind, str f.name, str f.val, str f.host, int f.port, str f.path, bln f.whole, int f.code]
abbrev ARule.d (r : ARule) : D := .agg [.pd (.slice (rows AMatch.pd r.matches_)), .pd (.slice (rows AFilter.pd r.filters)), .pd (.slice (rows ABackend.pd r.backends))]

abbrev ASide.ds (s : ASide) : List D := [int s.kind, str s.space, str s.name]
abbrev AListener.ds (l : AListener) : List D := [str l.name, int l.port, bln l.tls, str l.host, int l.cert.kind, str l.cert.space, str l.cert.name, int l.from_, .pd (.slice (rows ANeed.pd l.needs))]
abbrev AParent.ds (p : AParent) : List D := [str p.space, str p.name, str p.section_, int p.port]
abbrev ints_ (n : Int) : List D := [int n]
abbrev strs_ (n : ByteArray) : List D := [str n]

def eqf {α : Type} (q : α → α → Bool) : List α → List α → Bool
  | [], [] => true
  | x :: l, y :: m => q x y && eqf q l m
  | _, _ => false

theorem eqf_len {α : Type} (q : α → α → Bool) : ∀ {l m : List α}, l.length ≠ m.length → eqf q l m = false
  | [], [], h => absurd rfl h
  | [], _ :: _, _ => rfl
  | _ :: _, [], _ => rfl
  | x :: l, y :: m, h => by
    rw [eqf, eqf_len q (by simpa using h), Bool.and_false]

theorem eq_int (x y : Int) : decide (x = y) = decide (x = y) := rfl
theorem eq_string (x y : ByteArray) : decide (x = y) = decide (x = y) := rfl
theorem eq_Pair (x y : APair) : (decide (x.name = y.name) && decide (x.val = y.val)) = decide (x = y) := by
  cases x; cases y; rw [Bool.eq_iff_iff]; simp
theorem eq_Side (x y : ASide) : (decide (x.kind = y.kind) && (decide (x.space = y.space) && decide (x.name = y.name))) = decide (x = y) := by
  cases x; cases y; rw [Bool.eq_iff_iff]; simp
theorem eq_Parent (x y : AParent) : (decide (x.space = y.space) && (decide (x.name = y.name) && (decide (x.section_ = y.section_) && decide (x.port = y.port)))) = decide (x = y) := by
  cases x; cases y; rw [Bool.eq_iff_iff]; simp
theorem eq_Ref (x y : ARef) : (decide (x.kind = y.kind) && (decide (x.space = y.space) && decide (x.name = y.name))) = decide (x = y) := by
  cases x; cases y; rw [Bool.eq_iff_iff]; simp
theorem eq_Backend (x y : ABackend) : (decide (x.ref.kind = y.ref.kind) && (decide (x.ref.space = y.ref.space) && (decide (x.ref.name = y.ref.name) && (decide (x.port = y.port) && decide (x.weight = y.weight))))) = decide (x = y) := by
  obtain ⟨⟨a, b, c⟩, d, e⟩ := x; obtain ⟨⟨a', b', c'⟩, d', e'⟩ := y; rw [Bool.eq_iff_iff]; simp [and_assoc]
theorem eq_Filter (x y : AFilter) : (decide (x.kind = y.kind) && (decide (x.name = y.name) && (decide (x.val = y.val) && (decide (x.host = y.host) && (decide (x.port = y.port) && (decide (x.path = y.path) && (x.whole == y.whole && decide (x.code = y.code)))))))) = decide (x = y) := by
  cases x; cases y; rw [Bool.eq_iff_iff]; simp

end Go.Proofs.YtmdepehjfnpklaaGreatDoor
