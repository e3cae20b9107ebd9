/- Texts of the prover's, joined: D4 G1 G2 G3 G4. -/
import Derived.Test.YtmdepehjfnpklaaGreatDoorK4
import Derived.Test.YtmdepehjfnpklaaGreatDoorProg
import Derived.KernelRfl

namespace Go.Proofs.YtmdepehjfnpklaaGreatDoor
open Go

def an_z576z : Ann := ⟨[(0, [0, 1]), (1, [0, 1, 7, 8]), (2, [0, 1, 7, 8, 9]), (3, [0, 1, 5, 7, 8]), (4, [0, 1, 5, 7, 8, 16]), (5, [4]), (6, [0, 1, 7, 8]), (7, [4])], [], []⟩
def ac_z576z : AC := (.seq (.region [.mk none (some 4) (.mv (.const (.int .i64 0)))] (some [0, 1])) (.seq (.seq (.region [.mk none (some 6) (.mv (.tmp 0)), .mk none (some 7) (.len (.tmp 6) false), .mk none (some 8) (.mv (.const (.int .i64 0)))] (some [0, 1, 7, 8])) (.block 0 (.loop (.seq (.region [.mk none (some 9) (.bin .lss (.tmp 8) (.tmp 7))] (some [0, 1, 7, 8, 9])) (.seq (.cond (.tmp 9) .skip (.exit 0)) (.seq (.block 1 (.seq (.region [.mk none (some 10) (.mv (.tmp 8)), .mk none (some 5) (.mv (.tmp 10))] (some [0, 1, 5, 7, 8])) (.seq (.region [.mk none (some 11) (.mv (.tmp 1)), .mk none (some 12) (.mv (.tmp 0)), .mk none (some 13) (.mv (.tmp 5)), .mk none (some 14) (.idxA 13 (.tmp 12) (.tmp 13)), .mk none (some 15) (.load (some 13) (.tmp 14)), .mk none (some 16) (.callv (.tmp 11) [.tmp 15])] (some [0, 1, 5, 7, 8, 16])) (.cond (.tmp 16) (.seq (.region [.mk none (some 17) (.mv (.tmp 5)), .mk none (some 4) (.mv (.tmp 17))] (some [4])) .ret) .skip)))) (.region [.mk none (some 18) (.bin .add (.tmp 8) (.const (.int .i64 1))), .mk none (some 8) (.mv (.tmp 18))] (some [0, 1, 7, 8])))))))) (.seq (.region [.mk none (some 4) (.mv (.const (.int .i64 (-1))))] (some [4])) .ret)))
theorem ok_z576z : compC Tryz.prog an_z576z (Tryz.f33.body.getD .skip) = some ac_z576z := by kernel_rfl
theorem dst_z576z : ac_z576z.dstOK Tryz.f33.ntmps (fun i => decide (i < Tryz.f33.ntmps)) = true := by kernel_rfl

def an_zkgk0 : Ann := ⟨[(0, [0, 1]), (1, [4])], [], []⟩
def ac_zkgk0 : AC := (.seq (.region [.mk none (some 4) (.mv (.const (.bool false)))] (some [0, 1])) (.seq (.region [.mk none (some 5) (.mv (.tmp 0)), .mk none (some 6) (.mv (.tmp 1)), .mk none (some 7) (.call 82 [.tmp 5, .tmp 6]), .mk none (some 8) (.bin .geq (.tmp 7) (.const (.int .i64 0))), .mk none (some 4) (.mv (.tmp 8))] (some [4])) .ret))
theorem ok_zkgk0 : compC Tryz.prog an_zkgk0 (Tryz.f45.body.getD .skip) = some ac_zkgk0 := by kernel_rfl
theorem dst_zkgk0 : ac_zkgk0.dstOK Tryz.f45.ntmps (fun i => decide (i < Tryz.f45.ntmps)) = true := by kernel_rfl

def an_z5yno : Ann := ⟨[(0, [0, 1, 5]), (1, [6])], [], []⟩
def ac_z5yno : AC := (.seq (.region [.mk none (some 5) (.box 106 (.tmp 2)), .mk none (some 6) (.mv (.const (.bool false)))] (some [0, 1, 5])) (.seq (.region [.mk none (some 7) (.mv (.tmp 0)), .mk none (some 8) (.len (.tmp 7) false), .mk none (some 9) (.mv (.tmp 1)), .mk none (some 10) (.bin .leq (.tmp 8) (.tmp 9)), .mk none (some 11) (.mv (.tmp 10)), .mk (some (11, true)) (some 12) (.mv (.tmp 0)), .mk (some (11, true)) (some 13) (.mkfn 85 [.tmp 5]), .mk (some (11, true)) (some 14) (.call 84 [.tmp 12, .tmp 13]), .mk (some (11, true)) (some 15) (.un .not (.tmp 14)), .mk none (some 16) (.pick (.tmp 11) (.tmp 15) (.const (.bool false))), .mk none (some 6) (.mv (.tmp 16))] (some [6])) .ret))
theorem ok_z5yno : compC Tryz.prog an_z5yno (Tryz.f47.body.getD .skip) = some ac_z5yno := by kernel_rfl
theorem dst_z5yno : ac_z5yno.dstOK Tryz.f47.ntmps (fun i => decide (i < Tryz.f47.ntmps)) = true := by kernel_rfl

def an_zhfyj : Ann := ⟨[(0, [0]), (1, [0, 3]), (2, [0, 3, 8]), (3, [0, 3]), (4, [0, 3, 20]), (5, [2]), (6, [2])], [(4, ([0, 0, 3, 7, 0, 0, 32, 112, 240, 511], .take 0 (.take 1 (.take 2 (.take 3 (.take 4 (.take 5 (.take 6 (.take 7 (.take 8 (.alts (.cons 9 true (.done) (.nil)))))))))))))], []⟩
def ac_zhfyj : AC := (.seq (.region [.mk none (some 2) (.mv (.const (.bool false)))] (some [0])) (.seq (.seq (.region [.mk none (some 4) (.mv (.tmp 0)), .mk none (some 5) (.len (.tmp 4) false), .mk none (some 6) (.bin .sub (.tmp 5) (.const (.int .i64 1))), .mk none (some 3) (.mv (.tmp 6))] (some [0, 3])) (.block 0 (.loop (.seq (.seq (.region [.mk none (some 7) (.mv (.tmp 3)), .mk none (some 8) (.bin .gtr (.tmp 7) (.const (.int .i64 0)))] (some [0, 3, 8])) (.cond (.tmp 8) .skip (.exit 0))) (.seq (.block 1 (.seq (.draw [.mk none (some 11) (.mv (.tmp 0)), .mk none (some 12) (.mv (.tmp 3)), .mk none (some 13) (.idxA 1 (.tmp 11) (.tmp 12)), .mk none (some 14) (.load none (.tmp 13)), .mk none (some 15) (.mv (.tmp 0)), .mk none (some 16) (.mv (.tmp 3)), .mk none (some 17) (.bin .sub (.tmp 16) (.const (.int .i64 1))), .mk none (some 18) (.idxA 1 (.tmp 15) (.tmp 17)), .mk none (some 19) (.load none (.tmp 18)), .mk none (some 20) (.call 86 [.tmp 14, .tmp 19])] [0, 0, 3, 7, 0, 0, 32, 112, 240, 511] (.take 0 (.take 1 (.take 2 (.take 3 (.take 4 (.take 5 (.take 6 (.take 7 (.take 8 (.alts (.cons 9 true .done .nil))))))))))) (some [0, 3, 20])) (.cond (.tmp 20) (.seq (.region [.mk none (some 2) (.mv (.const (.bool false)))] (some [2])) .ret) .skip))) (.region [.mk none (some 9) (.mv (.tmp 3)), .mk none (some 10) (.bin .sub (.tmp 9) (.const (.int .i64 1))), .mk none (some 3) (.mv (.tmp 10))] (some [0, 3]))))))) (.seq (.region [.mk none (some 2) (.mv (.const (.bool true)))] (some [2])) .ret)))
theorem ok_zhfyj : compC Tryz.prog an_zhfyj (Tryz.f49.body.getD .skip) = some ac_zhfyj := by kernel_rfl
theorem dst_zhfyj : ac_zhfyj.dstOK Tryz.f49.ntmps (fun i => decide (i < Tryz.f49.ntmps)) = true := by kernel_rfl

def an_zb3kh : Ann := ⟨[(0, [0, 3]), (1, [0, 3, 7, 8, 9]), (2, [0, 3, 7, 8, 9, 10]), (3, [0, 3, 5, 6, 7, 8, 9]), (4, [0, 3, 7, 8, 9, 18]), (5, [4]), (6, [0, 3, 7, 8, 9]), (7, [4])], [], []⟩
def ac_zb3kh : AC := (.seq (.region [.mk none (some 3) (.box 109 (.tmp 1)), .mk none (some 4) (.mv (.const (.bool false)))] (some [0, 3])) (.seq (.seq (.region [.mk none (some 7) (.mv (.tmp 0)), .mk none (some 8) (.len (.tmp 7) false), .mk none (some 9) (.mv (.const (.int .i64 0)))] (some [0, 3, 7, 8, 9])) (.block 0 (.loop (.seq (.region [.mk none (some 10) (.bin .lss (.tmp 9) (.tmp 8))] (some [0, 3, 7, 8, 9, 10])) (.seq (.cond (.tmp 10) .skip (.exit 0)) (.seq (.block 1 (.seq (.region [.mk none (some 11) (.mv (.tmp 9)), .mk none (some 12) (.idxA 1 (.tmp 7) (.tmp 9)), .mk none (some 13) (.load none (.tmp 12)), .mk none (some 6) (.alloc 3 [.pd (.raw (.int .i64 0))]), .mk none (some 5) (.mv (.tmp 11)), .mk none none (.store 1 (.tmp 6) (.tmp 13))] (some [0, 3, 5, 6, 7, 8, 9])) (.seq (.region [.mk none (some 14) (.mv (.tmp 0)), .mk none (some 15) (.mv (.tmp 5)), .mk none (some 16) (.slcL 1 (.tmp 14) none (some (.tmp 15))), .mk none (some 17) (.mkfn 87 [.tmp 3, .tmp 6]), .mk none (some 18) (.call 84 [.tmp 16, .tmp 17])] (some [0, 3, 7, 8, 9, 18])) (.cond (.tmp 18) (.seq (.region [.mk none (some 4) (.mv (.const (.bool true)))] (some [4])) .ret) .skip)))) (.region [.mk none (some 19) (.bin .add (.tmp 9) (.const (.int .i64 1))), .mk none (some 9) (.mv (.tmp 19))] (some [0, 3, 7, 8, 9])))))))) (.seq (.region [.mk none (some 4) (.mv (.const (.bool false)))] (some [4])) .ret)))
theorem ok_zb3kh : compC Tryz.prog an_zb3kh (Tryz.f50.body.getD .skip) = some ac_zb3kh := by kernel_rfl
theorem dst_zb3kh : ac_zb3kh.dstOK Tryz.f50.ntmps (fun i => decide (i < Tryz.f50.ntmps)) = true := by kernel_rfl

def an_zpo9w : Ann := ⟨[(0, [0, 1, 5]), (1, [6])], [], []⟩
def ac_zpo9w : AC := (.seq (.region [.mk none (some 5) (.box 113 (.tmp 2)), .mk none (some 6) (.mv (.const (.bool false)))] (some [0, 1, 5])) (.seq (.region [.mk none (some 7) (.mv (.tmp 0)), .mk none (some 8) (.len (.tmp 7) false), .mk none (some 9) (.mv (.tmp 1)), .mk none (some 10) (.bin .leq (.tmp 8) (.tmp 9)), .mk none (some 11) (.mv (.tmp 10)), .mk (some (11, true)) (some 12) (.mv (.tmp 0)), .mk (some (11, true)) (some 13) (.mkfn 90 [.tmp 5]), .mk (some (11, true)) (some 14) (.call 89 [.tmp 12, .tmp 13]), .mk (some (11, true)) (some 15) (.un .not (.tmp 14)), .mk none (some 16) (.pick (.tmp 11) (.tmp 15) (.const (.bool false))), .mk none (some 6) (.mv (.tmp 16))] (some [6])) .ret))
theorem ok_zpo9w : compC Tryz.prog an_zpo9w (Tryz.f54.body.getD .skip) = some ac_zpo9w := by kernel_rfl
theorem dst_zpo9w : ac_zpo9w.dstOK Tryz.f54.ntmps (fun i => decide (i < Tryz.f54.ntmps)) = true := by kernel_rfl

def an_zp700 : Ann := ⟨[(0, [0, 3]), (1, [0, 3, 7, 8, 9]), (2, [0, 3, 7, 8, 9, 10]), (3, [0, 3, 5, 6, 7, 8, 9]), (4, [0, 3, 7, 8, 9, 18]), (5, [4]), (6, [0, 3, 7, 8, 9]), (7, [4])], [], []⟩
def ac_zp700 : AC := (.seq (.region [.mk none (some 3) (.box 110 (.tmp 1)), .mk none (some 4) (.mv (.const (.bool false)))] (some [0, 3])) (.seq (.seq (.region [.mk none (some 7) (.mv (.tmp 0)), .mk none (some 8) (.len (.tmp 7) false), .mk none (some 9) (.mv (.const (.int .i64 0)))] (some [0, 3, 7, 8, 9])) (.block 0 (.loop (.seq (.region [.mk none (some 10) (.bin .lss (.tmp 9) (.tmp 8))] (some [0, 3, 7, 8, 9, 10])) (.seq (.cond (.tmp 10) .skip (.exit 0)) (.seq (.block 1 (.seq (.region [.mk none (some 11) (.mv (.tmp 9)), .mk none (some 12) (.idxA 9 (.tmp 7) (.tmp 9)), .mk none (some 13) (.load (some 9) (.tmp 12)), .mk none (some 6) (.alloc 49 [.pd (.raw (.string ⟨#[]⟩)), .pd (.raw (.int .i64 0)), .pd (.raw (.bool false)), .pd (.raw (.string ⟨#[]⟩)), .pd (.raw (.int .i64 0)), .pd (.raw (.string ⟨#[]⟩)), .pd (.raw (.string ⟨#[]⟩)), .pd (.raw (.int .i64 0)), .nils]), .mk none (some 5) (.mv (.tmp 11)), .mk none none (.store 9 (.tmp 6) (.tmp 13))] (some [0, 3, 5, 6, 7, 8, 9])) (.seq (.region [.mk none (some 14) (.mv (.tmp 0)), .mk none (some 15) (.mv (.tmp 5)), .mk none (some 16) (.slcL 9 (.tmp 14) none (some (.tmp 15))), .mk none (some 17) (.mkfn 93 [.tmp 3, .tmp 6]), .mk none (some 18) (.call 89 [.tmp 16, .tmp 17])] (some [0, 3, 7, 8, 9, 18])) (.cond (.tmp 18) (.seq (.region [.mk none (some 4) (.mv (.const (.bool true)))] (some [4])) .ret) .skip)))) (.region [.mk none (some 19) (.bin .add (.tmp 9) (.const (.int .i64 1))), .mk none (some 9) (.mv (.tmp 19))] (some [0, 3, 7, 8, 9])))))))) (.seq (.region [.mk none (some 4) (.mv (.const (.bool false)))] (some [4])) .ret)))
theorem ok_zp700 : compC Tryz.prog an_zp700 (Tryz.f56.body.getD .skip) = some ac_zp700 := by kernel_rfl
theorem dst_zp700 : ac_zp700.dstOK Tryz.f56.ntmps (fun i => decide (i < Tryz.f56.ntmps)) = true := by kernel_rfl

def an_zo7vn : Ann := ⟨[(0, [0, 3]), (1, [0, 3, 7, 8, 9]), (2, [0, 3, 7, 8, 9, 10]), (3, [0, 3, 5, 6, 7, 8, 9]), (4, [0, 3, 7, 8, 9, 18]), (5, [4]), (6, [0, 3, 7, 8, 9]), (7, [4])], [], []⟩
def ac_zo7vn : AC := (.seq (.region [.mk none (some 3) (.box 116 (.tmp 1)), .mk none (some 4) (.mv (.const (.bool false)))] (some [0, 3])) (.seq (.seq (.region [.mk none (some 7) (.mv (.tmp 0)), .mk none (some 8) (.len (.tmp 7) false), .mk none (some 9) (.mv (.const (.int .i64 0)))] (some [0, 3, 7, 8, 9])) (.block 0 (.loop (.seq (.region [.mk none (some 10) (.bin .lss (.tmp 9) (.tmp 8))] (some [0, 3, 7, 8, 9, 10])) (.seq (.cond (.tmp 10) .skip (.exit 0)) (.seq (.block 1 (.seq (.region [.mk none (some 11) (.mv (.tmp 9)), .mk none (some 12) (.idxA 4 (.tmp 7) (.tmp 9)), .mk none (some 13) (.load (some 4) (.tmp 12)), .mk none (some 6) (.alloc 52 [.pd (.raw (.string ⟨#[]⟩)), .pd (.raw (.string ⟨#[]⟩)), .pd (.raw (.string ⟨#[]⟩)), .pd (.raw (.int .i64 0))]), .mk none (some 5) (.mv (.tmp 11)), .mk none none (.store 4 (.tmp 6) (.tmp 13))] (some [0, 3, 5, 6, 7, 8, 9])) (.seq (.region [.mk none (some 14) (.mv (.tmp 0)), .mk none (some 15) (.mv (.tmp 5)), .mk none (some 16) (.slcL 4 (.tmp 14) none (some (.tmp 15))), .mk none (some 17) (.mkfn 95 [.tmp 3, .tmp 6]), .mk none (some 18) (.call 94 [.tmp 16, .tmp 17])] (some [0, 3, 7, 8, 9, 18])) (.cond (.tmp 18) (.seq (.region [.mk none (some 4) (.mv (.const (.bool true)))] (some [4])) .ret) .skip)))) (.region [.mk none (some 19) (.bin .add (.tmp 9) (.const (.int .i64 1))), .mk none (some 9) (.mv (.tmp 19))] (some [0, 3, 7, 8, 9])))))))) (.seq (.region [.mk none (some 4) (.mv (.const (.bool false)))] (some [4])) .ret)))
theorem ok_zo7vn : compC Tryz.prog an_zo7vn (Tryz.f57.body.getD .skip) = some ac_zo7vn := by kernel_rfl
theorem dst_zo7vn : ac_zo7vn.dstOK Tryz.f57.ntmps (fun i => decide (i < Tryz.f57.ntmps)) = true := by kernel_rfl

def an_zogir : Ann := ⟨[(0, [0, 3]), (1, [0, 3, 7, 8, 9]), (2, [0, 3, 7, 8, 9, 10]), (3, [0, 3, 5, 6, 7, 8, 9]), (4, [0, 3, 7, 8, 9, 18]), (5, [4]), (6, [0, 3, 7, 8, 9]), (7, [4])], [], []⟩
def ac_zogir : AC := (.seq (.region [.mk none (some 3) (.box 118 (.tmp 1)), .mk none (some 4) (.mv (.const (.bool false)))] (some [0, 3])) (.seq (.seq (.region [.mk none (some 7) (.mv (.tmp 0)), .mk none (some 8) (.len (.tmp 7) false), .mk none (some 9) (.mv (.const (.int .i64 0)))] (some [0, 3, 7, 8, 9])) (.block 0 (.loop (.seq (.region [.mk none (some 10) (.bin .lss (.tmp 9) (.tmp 8))] (some [0, 3, 7, 8, 9, 10])) (.seq (.cond (.tmp 10) .skip (.exit 0)) (.seq (.block 1 (.seq (.region [.mk none (some 11) (.mv (.tmp 9)), .mk none (some 12) (.idxA 1 (.tmp 7) (.tmp 9)), .mk none (some 13) (.load none (.tmp 12)), .mk none (some 6) (.alloc 9 [.pd (.raw (.string ⟨#[]⟩))]), .mk none (some 5) (.mv (.tmp 11)), .mk none none (.store 1 (.tmp 6) (.tmp 13))] (some [0, 3, 5, 6, 7, 8, 9])) (.seq (.region [.mk none (some 14) (.mv (.tmp 0)), .mk none (some 15) (.mv (.tmp 5)), .mk none (some 16) (.slcL 1 (.tmp 14) none (some (.tmp 15))), .mk none (some 17) (.mkfn 97 [.tmp 3, .tmp 6]), .mk none (some 18) (.call 96 [.tmp 16, .tmp 17])] (some [0, 3, 7, 8, 9, 18])) (.cond (.tmp 18) (.seq (.region [.mk none (some 4) (.mv (.const (.bool true)))] (some [4])) .ret) .skip)))) (.region [.mk none (some 19) (.bin .add (.tmp 9) (.const (.int .i64 1))), .mk none (some 9) (.mv (.tmp 19))] (some [0, 3, 7, 8, 9])))))))) (.seq (.region [.mk none (some 4) (.mv (.const (.bool false)))] (some [4])) .ret)))
theorem ok_zogir : compC Tryz.prog an_zogir (Tryz.f59.body.getD .skip) = some ac_zogir := by kernel_rfl
theorem dst_zogir : ac_zogir.dstOK Tryz.f59.ntmps (fun i => decide (i < Tryz.f59.ntmps)) = true := by kernel_rfl

def an_zblzf : Ann := ⟨[(0, [0, 1, 5]), (1, [6])], [], []⟩
def ac_zblzf : AC := (.seq (.region [.mk none (some 5) (.box 120 (.tmp 2)), .mk none (some 6) (.mv (.const (.bool false)))] (some [0, 1, 5])) (.seq (.region [.mk none (some 7) (.mv (.tmp 0)), .mk none (some 8) (.len (.tmp 7) false), .mk none (some 9) (.mv (.tmp 1)), .mk none (some 10) (.bin .leq (.tmp 8) (.tmp 9)), .mk none (some 11) (.mv (.tmp 10)), .mk (some (11, true)) (some 12) (.mv (.tmp 0)), .mk (some (11, true)) (some 13) (.mkfn 99 [.tmp 5]), .mk (some (11, true)) (some 14) (.call 94 [.tmp 12, .tmp 13]), .mk (some (11, true)) (some 15) (.un .not (.tmp 14)), .mk none (some 16) (.pick (.tmp 11) (.tmp 15) (.const (.bool false))), .mk none (some 6) (.mv (.tmp 16))] (some [6])) .ret))
theorem ok_zblzf : compC Tryz.prog an_zblzf (Tryz.f63.body.getD .skip) = some ac_zblzf := by kernel_rfl
theorem dst_zblzf : ac_zblzf.dstOK Tryz.f63.ntmps (fun i => decide (i < Tryz.f63.ntmps)) = true := by kernel_rfl

def an_zch4 : Ann := ⟨[(0, [0, 1, 5]), (1, [6])], [], []⟩
def ac_zch4 : AC := (.seq (.region [.mk none (some 5) (.box 111 (.tmp 2)), .mk none (some 6) (.mv (.const (.bool false)))] (some [0, 1, 5])) (.seq (.region [.mk none (some 7) (.mv (.tmp 0)), .mk none (some 8) (.len (.tmp 7) false), .mk none (some 9) (.mv (.tmp 1)), .mk none (some 10) (.bin .leq (.tmp 8) (.tmp 9)), .mk none (some 11) (.mv (.tmp 10)), .mk (some (11, true)) (some 12) (.mv (.tmp 0)), .mk (some (11, true)) (some 13) (.mkfn 100 [.tmp 5]), .mk (some (11, true)) (some 14) (.call 96 [.tmp 12, .tmp 13]), .mk (some (11, true)) (some 15) (.un .not (.tmp 14)), .mk none (some 16) (.pick (.tmp 11) (.tmp 15) (.const (.bool false))), .mk none (some 6) (.mv (.tmp 16))] (some [6])) .ret))
theorem ok_zch4 : compC Tryz.prog an_zch4 (Tryz.f65.body.getD .skip) = some ac_zch4 := by kernel_rfl
theorem dst_zch4 : ac_zch4.dstOK Tryz.f65.ntmps (fun i => decide (i < Tryz.f65.ntmps)) = true := by kernel_rfl

def an_z2qr7 : Ann := ⟨[(0, [0, 1, 5]), (1, [6])], [], []⟩
def ac_z2qr7 : AC := (.seq (.region [.mk none (some 5) (.box 123 (.tmp 2)), .mk none (some 6) (.mv (.const (.bool false)))] (some [0, 1, 5])) (.seq (.region [.mk none (some 7) (.mv (.tmp 0)), .mk none (some 8) (.len (.tmp 7) false), .mk none (some 9) (.mv (.tmp 1)), .mk none (some 10) (.bin .leq (.tmp 8) (.tmp 9)), .mk none (some 11) (.mv (.tmp 10)), .mk (some (11, true)) (some 12) (.mv (.tmp 0)), .mk (some (11, true)) (some 13) (.mkfn 102 [.tmp 5]), .mk (some (11, true)) (some 14) (.call 101 [.tmp 12, .tmp 13]), .mk (some (11, true)) (some 15) (.un .not (.tmp 14)), .mk none (some 16) (.pick (.tmp 11) (.tmp 15) (.const (.bool false))), .mk none (some 6) (.mv (.tmp 16))] (some [6])) .ret))
theorem ok_z2qr7 : compC Tryz.prog an_z2qr7 (Tryz.f66.body.getD .skip) = some ac_z2qr7 := by kernel_rfl
theorem dst_z2qr7 : ac_z2qr7.dstOK Tryz.f66.ntmps (fun i => decide (i < Tryz.f66.ntmps)) = true := by kernel_rfl

def an_zqdfu : Ann := ⟨[(0, [0, 1, 5]), (1, [6])], [], []⟩
def ac_zqdfu : AC := (.seq (.region [.mk none (some 5) (.box 102 (.tmp 2)), .mk none (some 6) (.mv (.const (.bool false)))] (some [0, 1, 5])) (.seq (.region [.mk none (some 7) (.mv (.tmp 0)), .mk none (some 8) (.len (.tmp 7) false), .mk none (some 9) (.mv (.tmp 1)), .mk none (some 10) (.bin .leq (.tmp 8) (.tmp 9)), .mk none (some 11) (.mv (.tmp 10)), .mk (some (11, true)) (some 12) (.mv (.tmp 0)), .mk (some (11, true)) (some 13) (.mkfn 111 [.tmp 5]), .mk (some (11, true)) (some 14) (.call 45 [.tmp 12, .tmp 13]), .mk (some (11, true)) (some 15) (.un .not (.tmp 14)), .mk none (some 16) (.pick (.tmp 11) (.tmp 15) (.const (.bool false))), .mk none (some 6) (.mv (.tmp 16))] (some [6])) .ret))
theorem ok_zqdfu : compC Tryz.prog an_zqdfu (Tryz.f72.body.getD .skip) = some ac_zqdfu := by kernel_rfl
theorem dst_zqdfu : ac_zqdfu.dstOK Tryz.f72.ntmps (fun i => decide (i < Tryz.f72.ntmps)) = true := by kernel_rfl

def an_zfsc3 : Ann := ⟨[(0, [0, 1]), (1, [0, 1, 10]), (2, [4]), (3, [0, 1, 12, 13]), (4, [0, 1, 12, 13, 14]), (5, [0, 1, 5, 12, 13]), (6, [0, 1, 12, 13, 24]), (7, [4]), (8, [0, 1, 12, 13]), (9, [4])], [(6, ([0, 0, 3, 7, 0, 0, 48, 112, 255], .take 0 (.take 1 (.take 2 (.take 3 (.take 4 (.take 5 (.take 6 (.take 7 (.take 8 (.done)))))))))))], []⟩
def ac_zfsc3 : AC := (.seq (.region [.mk none (some 4) (.mv (.const (.bool false)))] (some [0, 1])) (.seq (.seq (.region [.mk none (some 6) (.mv (.tmp 0)), .mk none (some 7) (.len (.tmp 6) false), .mk none (some 8) (.mv (.tmp 1)), .mk none (some 9) (.len (.tmp 8) false), .mk none (some 10) (.bin .neq (.tmp 7) (.tmp 9))] (some [0, 1, 10])) (.cond (.tmp 10) (.seq (.region [.mk none (some 4) (.mv (.const (.bool false)))] (some [4])) .ret) .skip)) (.seq (.seq (.region [.mk none (some 11) (.mv (.tmp 0)), .mk none (some 12) (.len (.tmp 11) false), .mk none (some 13) (.mv (.const (.int .i64 0)))] (some [0, 1, 12, 13])) (.block 0 (.loop (.seq (.region [.mk none (some 14) (.bin .lss (.tmp 13) (.tmp 12))] (some [0, 1, 12, 13, 14])) (.seq (.cond (.tmp 14) .skip (.exit 0)) (.seq (.block 1 (.seq (.region [.mk none (some 15) (.mv (.tmp 13)), .mk none (some 5) (.mv (.tmp 15))] (some [0, 1, 5, 12, 13])) (.seq (.draw [.mk none (some 16) (.mv (.tmp 0)), .mk none (some 17) (.mv (.tmp 5)), .mk none (some 18) (.idxA 2 (.tmp 16) (.tmp 17)), .mk none (some 19) (.load (some 2) (.tmp 18)), .mk none (some 20) (.mv (.tmp 1)), .mk none (some 21) (.mv (.tmp 5)), .mk none (some 22) (.idxA 2 (.tmp 20) (.tmp 21)), .mk none (some 23) (.load (some 2) (.tmp 22)), .mk none (some 24) (.eqs true [.str, .str] (.tmp 19) (.tmp 23))] [0, 0, 3, 7, 0, 0, 48, 112, 255] (.take 0 (.take 1 (.take 2 (.take 3 (.take 4 (.take 5 (.take 6 (.take 7 (.take 8 .done))))))))) (some [0, 1, 12, 13, 24])) (.cond (.tmp 24) (.seq (.region [.mk none (some 4) (.mv (.const (.bool false)))] (some [4])) .ret) .skip)))) (.region [.mk none (some 25) (.bin .add (.tmp 13) (.const (.int .i64 1))), .mk none (some 13) (.mv (.tmp 25))] (some [0, 1, 12, 13])))))))) (.seq (.region [.mk none (some 4) (.mv (.const (.bool true)))] (some [4])) .ret))))
theorem ok_zfsc3 : compC Tryz.prog an_zfsc3 (Tryz.f73.body.getD .skip) = some ac_zfsc3 := by kernel_rfl
theorem dst_zfsc3 : ac_zfsc3.dstOK Tryz.f73.ntmps (fun i => decide (i < Tryz.f73.ntmps)) = true := by kernel_rfl

def an_zu266 : Ann := ⟨[(0, [0, 1]), (1, [0, 1, 10]), (2, [4]), (3, [0, 1, 12, 13]), (4, [0, 1, 12, 13, 14]), (5, [0, 1, 5, 12, 13]), (6, [0, 1, 12, 13, 24]), (7, [4]), (8, [0, 1, 12, 13]), (9, [4])], [(6, ([0, 0, 3, 7, 0, 0, 48, 112, 255], .take 0 (.take 1 (.take 2 (.take 3 (.take 4 (.take 5 (.take 6 (.take 7 (.take 8 (.done)))))))))))], []⟩
def ac_zu266 : AC := (.seq (.region [.mk none (some 4) (.mv (.const (.bool false)))] (some [0, 1])) (.seq (.seq (.region [.mk none (some 6) (.mv (.tmp 0)), .mk none (some 7) (.len (.tmp 6) false), .mk none (some 8) (.mv (.tmp 1)), .mk none (some 9) (.len (.tmp 8) false), .mk none (some 10) (.bin .neq (.tmp 7) (.tmp 9))] (some [0, 1, 10])) (.cond (.tmp 10) (.seq (.region [.mk none (some 4) (.mv (.const (.bool false)))] (some [4])) .ret) .skip)) (.seq (.seq (.region [.mk none (some 11) (.mv (.tmp 0)), .mk none (some 12) (.len (.tmp 11) false), .mk none (some 13) (.mv (.const (.int .i64 0)))] (some [0, 1, 12, 13])) (.block 0 (.loop (.seq (.region [.mk none (some 14) (.bin .lss (.tmp 13) (.tmp 12))] (some [0, 1, 12, 13, 14])) (.seq (.cond (.tmp 14) .skip (.exit 0)) (.seq (.block 1 (.seq (.region [.mk none (some 15) (.mv (.tmp 13)), .mk none (some 5) (.mv (.tmp 15))] (some [0, 1, 5, 12, 13])) (.seq (.draw [.mk none (some 16) (.mv (.tmp 0)), .mk none (some 17) (.mv (.tmp 5)), .mk none (some 18) (.idxA 1 (.tmp 16) (.tmp 17)), .mk none (some 19) (.load none (.tmp 18)), .mk none (some 20) (.mv (.tmp 1)), .mk none (some 21) (.mv (.tmp 5)), .mk none (some 22) (.idxA 1 (.tmp 20) (.tmp 21)), .mk none (some 23) (.load none (.tmp 22)), .mk none (some 24) (.bin .neq (.tmp 19) (.tmp 23))] [0, 0, 3, 7, 0, 0, 48, 112, 255] (.take 0 (.take 1 (.take 2 (.take 3 (.take 4 (.take 5 (.take 6 (.take 7 (.take 8 .done))))))))) (some [0, 1, 12, 13, 24])) (.cond (.tmp 24) (.seq (.region [.mk none (some 4) (.mv (.const (.bool false)))] (some [4])) .ret) .skip)))) (.region [.mk none (some 25) (.bin .add (.tmp 13) (.const (.int .i64 1))), .mk none (some 13) (.mv (.tmp 25))] (some [0, 1, 12, 13])))))))) (.seq (.region [.mk none (some 4) (.mv (.const (.bool true)))] (some [4])) .ret))))
theorem ok_zu266 : compC Tryz.prog an_zu266 (Tryz.f74.body.getD .skip) = some ac_zu266 := by kernel_rfl
theorem dst_zu266 : ac_zu266.dstOK Tryz.f74.ntmps (fun i => decide (i < Tryz.f74.ntmps)) = true := by kernel_rfl

def an_zdvt9 : Ann := ⟨[(0, [0, 1]), (1, [0, 1, 10]), (2, [4]), (3, [0, 1, 12, 13]), (4, [0, 1, 12, 13, 14]), (5, [0, 1, 5, 12, 13]), (6, [0, 1, 12, 13, 24]), (7, [4]), (8, [0, 1, 12, 13]), (9, [4])], [(6, ([0, 0, 3, 7, 0, 0, 48, 112, 255], .take 0 (.take 1 (.take 2 (.take 3 (.take 4 (.take 5 (.take 6 (.take 7 (.take 8 (.done)))))))))))], []⟩
def ac_zdvt9 : AC := (.seq (.region [.mk none (some 4) (.mv (.const (.bool false)))] (some [0, 1])) (.seq (.seq (.region [.mk none (some 6) (.mv (.tmp 0)), .mk none (some 7) (.len (.tmp 6) false), .mk none (some 8) (.mv (.tmp 1)), .mk none (some 9) (.len (.tmp 8) false), .mk none (some 10) (.bin .neq (.tmp 7) (.tmp 9))] (some [0, 1, 10])) (.cond (.tmp 10) (.seq (.region [.mk none (some 4) (.mv (.const (.bool false)))] (some [4])) .ret) .skip)) (.seq (.seq (.region [.mk none (some 11) (.mv (.tmp 0)), .mk none (some 12) (.len (.tmp 11) false), .mk none (some 13) (.mv (.const (.int .i64 0)))] (some [0, 1, 12, 13])) (.block 0 (.loop (.seq (.region [.mk none (some 14) (.bin .lss (.tmp 13) (.tmp 12))] (some [0, 1, 12, 13, 14])) (.seq (.cond (.tmp 14) .skip (.exit 0)) (.seq (.block 1 (.seq (.region [.mk none (some 15) (.mv (.tmp 13)), .mk none (some 5) (.mv (.tmp 15))] (some [0, 1, 5, 12, 13])) (.seq (.draw [.mk none (some 16) (.mv (.tmp 0)), .mk none (some 17) (.mv (.tmp 5)), .mk none (some 18) (.idxA 1 (.tmp 16) (.tmp 17)), .mk none (some 19) (.load none (.tmp 18)), .mk none (some 20) (.mv (.tmp 1)), .mk none (some 21) (.mv (.tmp 5)), .mk none (some 22) (.idxA 1 (.tmp 20) (.tmp 21)), .mk none (some 23) (.load none (.tmp 22)), .mk none (some 24) (.bin .neq (.tmp 19) (.tmp 23))] [0, 0, 3, 7, 0, 0, 48, 112, 255] (.take 0 (.take 1 (.take 2 (.take 3 (.take 4 (.take 5 (.take 6 (.take 7 (.take 8 .done))))))))) (some [0, 1, 12, 13, 24])) (.cond (.tmp 24) (.seq (.region [.mk none (some 4) (.mv (.const (.bool false)))] (some [4])) .ret) .skip)))) (.region [.mk none (some 25) (.bin .add (.tmp 13) (.const (.int .i64 1))), .mk none (some 13) (.mv (.tmp 25))] (some [0, 1, 12, 13])))))))) (.seq (.region [.mk none (some 4) (.mv (.const (.bool true)))] (some [4])) .ret))))
theorem ok_zdvt9 : compC Tryz.prog an_zdvt9 (Tryz.f75.body.getD .skip) = some ac_zdvt9 := by kernel_rfl
theorem dst_zdvt9 : ac_zdvt9.dstOK Tryz.f75.ntmps (fun i => decide (i < Tryz.f75.ntmps)) = true := by kernel_rfl

def an_zj0mp : Ann := ⟨[(0, [0, 1]), (1, [0, 1, 10]), (2, [4]), (3, [0, 1, 12, 13]), (4, [0, 1, 12, 13, 14]), (5, [0, 1, 5, 12, 13]), (6, [0, 1, 12, 13, 24]), (7, [4]), (8, [0, 1, 12, 13]), (9, [4])], [(6, ([0, 0, 3, 7, 0, 0, 48, 112, 255], .take 0 (.take 1 (.take 2 (.take 3 (.take 4 (.take 5 (.take 6 (.take 7 (.take 8 (.done)))))))))))], []⟩
def ac_zj0mp : AC := (.seq (.region [.mk none (some 4) (.mv (.const (.bool false)))] (some [0, 1])) (.seq (.seq (.region [.mk none (some 6) (.mv (.tmp 0)), .mk none (some 7) (.len (.tmp 6) false), .mk none (some 8) (.mv (.tmp 1)), .mk none (some 9) (.len (.tmp 8) false), .mk none (some 10) (.bin .neq (.tmp 7) (.tmp 9))] (some [0, 1, 10])) (.cond (.tmp 10) (.seq (.region [.mk none (some 4) (.mv (.const (.bool false)))] (some [4])) .ret) .skip)) (.seq (.seq (.region [.mk none (some 11) (.mv (.tmp 0)), .mk none (some 12) (.len (.tmp 11) false), .mk none (some 13) (.mv (.const (.int .i64 0)))] (some [0, 1, 12, 13])) (.block 0 (.loop (.seq (.region [.mk none (some 14) (.bin .lss (.tmp 13) (.tmp 12))] (some [0, 1, 12, 13, 14])) (.seq (.cond (.tmp 14) .skip (.exit 0)) (.seq (.block 1 (.seq (.region [.mk none (some 15) (.mv (.tmp 13)), .mk none (some 5) (.mv (.tmp 15))] (some [0, 1, 5, 12, 13])) (.seq (.draw [.mk none (some 16) (.mv (.tmp 0)), .mk none (some 17) (.mv (.tmp 5)), .mk none (some 18) (.idxA 4 (.tmp 16) (.tmp 17)), .mk none (some 19) (.load (some 4) (.tmp 18)), .mk none (some 20) (.mv (.tmp 1)), .mk none (some 21) (.mv (.tmp 5)), .mk none (some 22) (.idxA 4 (.tmp 20) (.tmp 21)), .mk none (some 23) (.load (some 4) (.tmp 22)), .mk none (some 24) (.eqs true [.str, .str, .str, .int] (.tmp 19) (.tmp 23))] [0, 0, 3, 7, 0, 0, 48, 112, 255] (.take 0 (.take 1 (.take 2 (.take 3 (.take 4 (.take 5 (.take 6 (.take 7 (.take 8 .done))))))))) (some [0, 1, 12, 13, 24])) (.cond (.tmp 24) (.seq (.region [.mk none (some 4) (.mv (.const (.bool false)))] (some [4])) .ret) .skip)))) (.region [.mk none (some 25) (.bin .add (.tmp 13) (.const (.int .i64 1))), .mk none (some 13) (.mv (.tmp 25))] (some [0, 1, 12, 13])))))))) (.seq (.region [.mk none (some 4) (.mv (.const (.bool true)))] (some [4])) .ret))))
theorem ok_zj0mp : compC Tryz.prog an_zj0mp (Tryz.f76.body.getD .skip) = some ac_zj0mp := by kernel_rfl
theorem dst_zj0mp : ac_zj0mp.dstOK Tryz.f76.ntmps (fun i => decide (i < Tryz.f76.ntmps)) = true := by kernel_rfl

def an_zlr2h : Ann := ⟨[(0, [0, 1]), (1, [0, 1, 10]), (2, [4]), (3, [0, 1, 12, 13]), (4, [0, 1, 12, 13, 14]), (5, [0, 1, 5, 12, 13]), (6, [0, 1, 12, 13, 24]), (7, [4]), (8, [0, 1, 12, 13]), (9, [4])], [(6, ([0, 0, 3, 7, 0, 0, 48, 112, 255], .take 0 (.take 1 (.take 2 (.take 3 (.take 4 (.take 5 (.take 6 (.take 7 (.take 8 (.done)))))))))))], []⟩
def ac_zlr2h : AC := (.seq (.region [.mk none (some 4) (.mv (.const (.bool false)))] (some [0, 1])) (.seq (.seq (.region [.mk none (some 6) (.mv (.tmp 0)), .mk none (some 7) (.len (.tmp 6) false), .mk none (some 8) (.mv (.tmp 1)), .mk none (some 9) (.len (.tmp 8) false), .mk none (some 10) (.bin .neq (.tmp 7) (.tmp 9))] (some [0, 1, 10])) (.cond (.tmp 10) (.seq (.region [.mk none (some 4) (.mv (.const (.bool false)))] (some [4])) .ret) .skip)) (.seq (.seq (.region [.mk none (some 11) (.mv (.tmp 0)), .mk none (some 12) (.len (.tmp 11) false), .mk none (some 13) (.mv (.const (.int .i64 0)))] (some [0, 1, 12, 13])) (.block 0 (.loop (.seq (.region [.mk none (some 14) (.bin .lss (.tmp 13) (.tmp 12))] (some [0, 1, 12, 13, 14])) (.seq (.cond (.tmp 14) .skip (.exit 0)) (.seq (.block 1 (.seq (.region [.mk none (some 15) (.mv (.tmp 13)), .mk none (some 5) (.mv (.tmp 15))] (some [0, 1, 5, 12, 13])) (.seq (.draw [.mk none (some 16) (.mv (.tmp 0)), .mk none (some 17) (.mv (.tmp 5)), .mk none (some 18) (.idxA 3 (.tmp 16) (.tmp 17)), .mk none (some 19) (.load (some 3) (.tmp 18)), .mk none (some 20) (.mv (.tmp 1)), .mk none (some 21) (.mv (.tmp 5)), .mk none (some 22) (.idxA 3 (.tmp 20) (.tmp 21)), .mk none (some 23) (.load (some 3) (.tmp 22)), .mk none (some 24) (.eqs true [.int, .str, .str] (.tmp 19) (.tmp 23))] [0, 0, 3, 7, 0, 0, 48, 112, 255] (.take 0 (.take 1 (.take 2 (.take 3 (.take 4 (.take 5 (.take 6 (.take 7 (.take 8 .done))))))))) (some [0, 1, 12, 13, 24])) (.cond (.tmp 24) (.seq (.region [.mk none (some 4) (.mv (.const (.bool false)))] (some [4])) .ret) .skip)))) (.region [.mk none (some 25) (.bin .add (.tmp 13) (.const (.int .i64 1))), .mk none (some 13) (.mv (.tmp 25))] (some [0, 1, 12, 13])))))))) (.seq (.region [.mk none (some 4) (.mv (.const (.bool true)))] (some [4])) .ret))))
theorem ok_zlr2h : compC Tryz.prog an_zlr2h (Tryz.f77.body.getD .skip) = some ac_zlr2h := by kernel_rfl
theorem dst_zlr2h : ac_zlr2h.dstOK Tryz.f77.ntmps (fun i => decide (i < Tryz.f77.ntmps)) = true := by kernel_rfl

def an_zuyoe : Ann := ⟨[(0, [0, 1, 2]), (1, [0, 1, 2, 14]), (2, [6]), (3, [1, 2, 15, 16, 17]), (4, [1, 2, 15, 16, 17, 18]), (5, [1, 2, 7, 8, 15, 16, 17]), (6, [1, 2, 8, 9, 15, 16, 17]), (7, [1, 2, 15, 16, 17, 30]), (8, [6]), (9, [1, 2, 15, 16, 17]), (10, [6])], [], []⟩
def ac_zuyoe : AC := (.seq (.region [.mk none (some 6) (.mv (.const (.bool false)))] (some [0, 1, 2])) (.seq (.seq (.region [.mk none (some 10) (.mv (.tmp 0)), .mk none (some 11) (.len (.tmp 10) false), .mk none (some 12) (.mv (.tmp 1)), .mk none (some 13) (.len (.tmp 12) false), .mk none (some 14) (.bin .neq (.tmp 11) (.tmp 13))] (some [0, 1, 2, 14])) (.cond (.tmp 14) (.seq (.region [.mk none (some 6) (.mv (.const (.bool false)))] (some [6])) .ret) .skip)) (.seq (.seq (.region [.mk none (some 15) (.mv (.tmp 0)), .mk none (some 16) (.len (.tmp 15) false), .mk none (some 17) (.mv (.const (.int .i64 0)))] (some [1, 2, 15, 16, 17])) (.block 0 (.loop (.seq (.region [.mk none (some 18) (.bin .lss (.tmp 17) (.tmp 16))] (some [1, 2, 15, 16, 17, 18])) (.seq (.cond (.tmp 18) .skip (.exit 0)) (.seq (.block 1 (.seq (.region [.mk none (some 19) (.mv (.tmp 17)), .mk none (some 20) (.idxA 9 (.tmp 15) (.tmp 17)), .mk none (some 21) (.load (some 9) (.tmp 20)), .mk none (some 8) (.alloc 49 [.pd (.raw (.string ⟨#[]⟩)), .pd (.raw (.int .i64 0)), .pd (.raw (.bool false)), .pd (.raw (.string ⟨#[]⟩)), .pd (.raw (.int .i64 0)), .pd (.raw (.string ⟨#[]⟩)), .pd (.raw (.string ⟨#[]⟩)), .pd (.raw (.int .i64 0)), .nils]), .mk none (some 7) (.mv (.tmp 19)), .mk none none (.store 9 (.tmp 8) (.tmp 21))] (some [1, 2, 7, 8, 15, 16, 17])) (.seq (.region [.mk none (some 22) (.mv (.tmp 1)), .mk none (some 23) (.mv (.tmp 7)), .mk none (some 24) (.idxA 9 (.tmp 22) (.tmp 23)), .mk none (some 25) (.load (some 9) (.tmp 24)), .mk none (some 9) (.alloc 49 [.pd (.raw (.string ⟨#[]⟩)), .pd (.raw (.int .i64 0)), .pd (.raw (.bool false)), .pd (.raw (.string ⟨#[]⟩)), .pd (.raw (.int .i64 0)), .pd (.raw (.string ⟨#[]⟩)), .pd (.raw (.string ⟨#[]⟩)), .pd (.raw (.int .i64 0)), .nils]), .mk none none (.store 9 (.tmp 9) (.tmp 25))] (some [1, 2, 8, 9, 15, 16, 17])) (.seq (.region [.mk none (some 26) (.mv (.tmp 2)), .mk none (some 27) (.load (some 9) (.tmp 8)), .mk none (some 28) (.load (some 9) (.tmp 9)), .mk none (some 29) (.callv (.tmp 26) [.tmp 27, .tmp 28]), .mk none (some 30) (.un .not (.tmp 29))] (some [1, 2, 15, 16, 17, 30])) (.cond (.tmp 30) (.seq (.region [.mk none (some 6) (.mv (.const (.bool false)))] (some [6])) .ret) .skip))))) (.region [.mk none (some 31) (.bin .add (.tmp 17) (.const (.int .i64 1))), .mk none (some 17) (.mv (.tmp 31))] (some [1, 2, 15, 16, 17])))))))) (.seq (.region [.mk none (some 6) (.mv (.const (.bool true)))] (some [6])) .ret))))
theorem ok_zuyoe : compC Tryz.prog an_zuyoe (Tryz.f78.body.getD .skip) = some ac_zuyoe := by kernel_rfl
theorem dst_zuyoe : ac_zuyoe.dstOK Tryz.f78.ntmps (fun i => decide (i < Tryz.f78.ntmps)) = true := by kernel_rfl

def an_zi41r : Ann := ⟨[(0, [0, 1, 2]), (1, [0, 1, 2, 14]), (2, [6]), (3, [1, 2, 15, 16, 17]), (4, [1, 2, 15, 16, 17, 18]), (5, [1, 2, 7, 8, 15, 16, 17]), (6, [1, 2, 8, 9, 15, 16, 17]), (7, [1, 2, 15, 16, 17, 30]), (8, [6]), (9, [1, 2, 15, 16, 17]), (10, [6])], [], []⟩
def ac_zi41r : AC := (.seq (.region [.mk none (some 6) (.mv (.const (.bool false)))] (some [0, 1, 2])) (.seq (.seq (.region [.mk none (some 10) (.mv (.tmp 0)), .mk none (some 11) (.len (.tmp 10) false), .mk none (some 12) (.mv (.tmp 1)), .mk none (some 13) (.len (.tmp 12) false), .mk none (some 14) (.bin .neq (.tmp 11) (.tmp 13))] (some [0, 1, 2, 14])) (.cond (.tmp 14) (.seq (.region [.mk none (some 6) (.mv (.const (.bool false)))] (some [6])) .ret) .skip)) (.seq (.seq (.region [.mk none (some 15) (.mv (.tmp 0)), .mk none (some 16) (.len (.tmp 15) false), .mk none (some 17) (.mv (.const (.int .i64 0)))] (some [1, 2, 15, 16, 17])) (.block 0 (.loop (.seq (.region [.mk none (some 18) (.bin .lss (.tmp 17) (.tmp 16))] (some [1, 2, 15, 16, 17, 18])) (.seq (.cond (.tmp 18) .skip (.exit 0)) (.seq (.block 1 (.seq (.region [.mk none (some 19) (.mv (.tmp 17)), .mk none (some 20) (.idxA 3 (.tmp 15) (.tmp 17)), .mk none (some 21) (.load (some 3) (.tmp 20)), .mk none (some 8) (.alloc 58 [.nils, .nils, .nils]), .mk none (some 7) (.mv (.tmp 19)), .mk none none (.store 3 (.tmp 8) (.tmp 21))] (some [1, 2, 7, 8, 15, 16, 17])) (.seq (.region [.mk none (some 22) (.mv (.tmp 1)), .mk none (some 23) (.mv (.tmp 7)), .mk none (some 24) (.idxA 3 (.tmp 22) (.tmp 23)), .mk none (some 25) (.load (some 3) (.tmp 24)), .mk none (some 9) (.alloc 58 [.nils, .nils, .nils]), .mk none none (.store 3 (.tmp 9) (.tmp 25))] (some [1, 2, 8, 9, 15, 16, 17])) (.seq (.region [.mk none (some 26) (.mv (.tmp 2)), .mk none (some 27) (.load (some 3) (.tmp 8)), .mk none (some 28) (.load (some 3) (.tmp 9)), .mk none (some 29) (.callv (.tmp 26) [.tmp 27, .tmp 28]), .mk none (some 30) (.un .not (.tmp 29))] (some [1, 2, 15, 16, 17, 30])) (.cond (.tmp 30) (.seq (.region [.mk none (some 6) (.mv (.const (.bool false)))] (some [6])) .ret) .skip))))) (.region [.mk none (some 31) (.bin .add (.tmp 17) (.const (.int .i64 1))), .mk none (some 17) (.mv (.tmp 31))] (some [1, 2, 15, 16, 17])))))))) (.seq (.region [.mk none (some 6) (.mv (.const (.bool true)))] (some [6])) .ret))))
theorem ok_zi41r : compC Tryz.prog an_zi41r (Tryz.f80.body.getD .skip) = some ac_zi41r := by kernel_rfl
theorem dst_zi41r : ac_zi41r.dstOK Tryz.f80.ntmps (fun i => decide (i < Tryz.f80.ntmps)) = true := by kernel_rfl

def an_zhz8f : Ann := ⟨[(0, [0, 1]), (1, [0, 1, 7, 8]), (2, [0, 1, 7, 8, 9]), (3, [0, 1, 5, 7, 8]), (4, [0, 1, 5, 7, 8, 16]), (5, [4]), (6, [0, 1, 7, 8]), (7, [4])], [], []⟩
def ac_zhz8f : AC := (.seq (.region [.mk none (some 4) (.mv (.const (.int .i64 0)))] (some [0, 1])) (.seq (.seq (.region [.mk none (some 6) (.mv (.tmp 0)), .mk none (some 7) (.len (.tmp 6) false), .mk none (some 8) (.mv (.const (.int .i64 0)))] (some [0, 1, 7, 8])) (.block 0 (.loop (.seq (.region [.mk none (some 9) (.bin .lss (.tmp 8) (.tmp 7))] (some [0, 1, 7, 8, 9])) (.seq (.cond (.tmp 9) .skip (.exit 0)) (.seq (.block 1 (.seq (.region [.mk none (some 10) (.mv (.tmp 8)), .mk none (some 5) (.mv (.tmp 10))] (some [0, 1, 5, 7, 8])) (.seq (.region [.mk none (some 11) (.mv (.tmp 1)), .mk none (some 12) (.mv (.tmp 0)), .mk none (some 13) (.mv (.tmp 5)), .mk none (some 14) (.idxA 3 (.tmp 12) (.tmp 13)), .mk none (some 15) (.load (some 3) (.tmp 14)), .mk none (some 16) (.callv (.tmp 11) [.tmp 15])] (some [0, 1, 5, 7, 8, 16])) (.cond (.tmp 16) (.seq (.region [.mk none (some 17) (.mv (.tmp 5)), .mk none (some 4) (.mv (.tmp 17))] (some [4])) .ret) .skip)))) (.region [.mk none (some 18) (.bin .add (.tmp 8) (.const (.int .i64 1))), .mk none (some 8) (.mv (.tmp 18))] (some [0, 1, 7, 8])))))))) (.seq (.region [.mk none (some 4) (.mv (.const (.int .i64 (-1))))] (some [4])) .ret)))
theorem ok_zhz8f : compC Tryz.prog an_zhz8f (Tryz.f82.body.getD .skip) = some ac_zhz8f := by kernel_rfl
theorem dst_zhz8f : ac_zhz8f.dstOK Tryz.f82.ntmps (fun i => decide (i < Tryz.f82.ntmps)) = true := by kernel_rfl

def an_z2spj : Ann := ⟨[(0, [0, 1]), (1, [4])], [], []⟩
def ac_z2spj : AC := (.seq (.region [.mk none (some 4) (.mv (.const (.bool false)))] (some [0, 1])) (.seq (.region [.mk none (some 5) (.mv (.tmp 0)), .mk none (some 6) (.mv (.tmp 1)), .mk none (some 7) (.call 117 [.tmp 5, .tmp 6]), .mk none (some 8) (.bin .geq (.tmp 7) (.const (.int .i64 0))), .mk none (some 4) (.mv (.tmp 8))] (some [4])) .ret))
theorem ok_z2spj : compC Tryz.prog an_z2spj (Tryz.f84.body.getD .skip) = some ac_z2spj := by kernel_rfl
theorem dst_z2spj : ac_z2spj.dstOK Tryz.f84.ntmps (fun i => decide (i < Tryz.f84.ntmps)) = true := by kernel_rfl

def an_zkvy2 : Ann := ⟨[(0, [0, 1]), (1, [3])], [], []⟩
def ac_zkvy2 : AC := (.seq (.region [.mk none (some 3) (.mv (.const (.bool false)))] (some [0, 1])) (.seq (.region [.mk none (some 4) (.load none (.tmp 1)), .mk none (some 5) (.mv (.tmp 0)), .mk none (some 6) (.callv (.tmp 4) [.tmp 5]), .mk none (some 7) (.un .not (.tmp 6)), .mk none (some 3) (.mv (.tmp 7))] (some [3])) .ret))
theorem ok_zkvy2 : compC Tryz.prog an_zkvy2 (Tryz.f85.body.getD .skip) = some ac_zkvy2 := by kernel_rfl
theorem dst_zkvy2 : ac_zkvy2.dstOK Tryz.f85.ntmps (fun i => decide (i < Tryz.f85.ntmps)) = true := by kernel_rfl

def an_zovpw : Ann := ⟨[(0, [0, 1, 2]), (1, [4])], [], []⟩
def ac_zovpw : AC := (.seq (.region [.mk none (some 4) (.mv (.const (.bool false)))] (some [0, 1, 2])) (.seq (.region [.mk none (some 5) (.load none (.tmp 1)), .mk none (some 6) (.load none (.tmp 2)), .mk none (some 7) (.mv (.tmp 0)), .mk none (some 8) (.callv (.tmp 5) [.tmp 6, .tmp 7]), .mk none (some 4) (.mv (.tmp 8))] (some [4])) .ret))
theorem ok_zovpw : compC Tryz.prog an_zovpw (Tryz.f87.body.getD .skip) = some ac_zovpw := by kernel_rfl
theorem dst_zovpw : ac_zovpw.dstOK Tryz.f87.ntmps (fun i => decide (i < Tryz.f87.ntmps)) = true := by kernel_rfl

def an_zosgm : Ann := ⟨[(0, [0, 1]), (1, [4])], [], []⟩
def ac_zosgm : AC := (.seq (.region [.mk none (some 4) (.mv (.const (.bool false)))] (some [0, 1])) (.seq (.region [.mk none (some 5) (.mv (.tmp 0)), .mk none (some 6) (.mv (.tmp 1)), .mk none (some 7) (.call 120 [.tmp 5, .tmp 6]), .mk none (some 8) (.bin .geq (.tmp 7) (.const (.int .i64 0))), .mk none (some 4) (.mv (.tmp 8))] (some [4])) .ret))
theorem ok_zosgm : compC Tryz.prog an_zosgm (Tryz.f89.body.getD .skip) = some ac_zosgm := by kernel_rfl
theorem dst_zosgm : ac_zosgm.dstOK Tryz.f89.ntmps (fun i => decide (i < Tryz.f89.ntmps)) = true := by kernel_rfl

def an_zir97 : Ann := ⟨[(0, [1, 2]), (1, [3])], [], []⟩
def ac_zir97 : AC := (.seq (.region [.mk none (some 2) (.box 49 (.tmp 0)), .mk none (some 3) (.mv (.const (.bool false)))] (some [1, 2])) (.seq (.region [.mk none (some 4) (.load none (.tmp 1)), .mk none (some 5) (.load (some 9) (.tmp 2)), .mk none (some 6) (.callv (.tmp 4) [.tmp 5]), .mk none (some 7) (.un .not (.tmp 6)), .mk none (some 3) (.mv (.tmp 7))] (some [3])) .ret))
theorem ok_zir97 : compC Tryz.prog an_zir97 (Tryz.f90.body.getD .skip) = some ac_zir97 := by kernel_rfl
theorem dst_zir97 : ac_zir97.dstOK Tryz.f90.ntmps (fun i => decide (i < Tryz.f90.ntmps)) = true := by kernel_rfl

def an_ztyjm : Ann := ⟨[(0, [1, 2, 3]), (1, [4])], [], []⟩
def ac_ztyjm : AC := (.seq (.region [.mk none (some 3) (.box 49 (.tmp 0)), .mk none (some 4) (.mv (.const (.bool false)))] (some [1, 2, 3])) (.seq (.region [.mk none (some 5) (.load none (.tmp 1)), .mk none (some 6) (.load (some 9) (.tmp 2)), .mk none (some 7) (.load (some 9) (.tmp 3)), .mk none (some 8) (.callv (.tmp 5) [.tmp 6, .tmp 7]), .mk none (some 4) (.mv (.tmp 8))] (some [4])) .ret))
theorem ok_ztyjm : compC Tryz.prog an_ztyjm (Tryz.f93.body.getD .skip) = some ac_ztyjm := by kernel_rfl
theorem dst_ztyjm : ac_ztyjm.dstOK Tryz.f93.ntmps (fun i => decide (i < Tryz.f93.ntmps)) = true := by kernel_rfl

def an_zic3s : Ann := ⟨[(0, [0, 1]), (1, [4])], [], []⟩
def ac_zic3s : AC := (.seq (.region [.mk none (some 4) (.mv (.const (.bool false)))] (some [0, 1])) (.seq (.region [.mk none (some 5) (.mv (.tmp 0)), .mk none (some 6) (.mv (.tmp 1)), .mk none (some 7) (.call 124 [.tmp 5, .tmp 6]), .mk none (some 8) (.bin .geq (.tmp 7) (.const (.int .i64 0))), .mk none (some 4) (.mv (.tmp 8))] (some [4])) .ret))
theorem ok_zic3s : compC Tryz.prog an_zic3s (Tryz.f94.body.getD .skip) = some ac_zic3s := by kernel_rfl
theorem dst_zic3s : ac_zic3s.dstOK Tryz.f94.ntmps (fun i => decide (i < Tryz.f94.ntmps)) = true := by kernel_rfl

def an_z6aq8 : Ann := ⟨[(0, [1, 2, 3]), (1, [4])], [], []⟩
def ac_z6aq8 : AC := (.seq (.region [.mk none (some 3) (.box 52 (.tmp 0)), .mk none (some 4) (.mv (.const (.bool false)))] (some [1, 2, 3])) (.seq (.region [.mk none (some 5) (.load none (.tmp 1)), .mk none (some 6) (.load (some 4) (.tmp 2)), .mk none (some 7) (.load (some 4) (.tmp 3)), .mk none (some 8) (.callv (.tmp 5) [.tmp 6, .tmp 7]), .mk none (some 4) (.mv (.tmp 8))] (some [4])) .ret))
theorem ok_z6aq8 : compC Tryz.prog an_z6aq8 (Tryz.f95.body.getD .skip) = some ac_z6aq8 := by kernel_rfl
theorem dst_z6aq8 : ac_z6aq8.dstOK Tryz.f95.ntmps (fun i => decide (i < Tryz.f95.ntmps)) = true := by kernel_rfl

def an_zyx5 : Ann := ⟨[(0, [0, 1]), (1, [4])], [], []⟩
def ac_zyx5 : AC := (.seq (.region [.mk none (some 4) (.mv (.const (.bool false)))] (some [0, 1])) (.seq (.region [.mk none (some 5) (.mv (.tmp 0)), .mk none (some 6) (.mv (.tmp 1)), .mk none (some 7) (.call 125 [.tmp 5, .tmp 6]), .mk none (some 8) (.bin .geq (.tmp 7) (.const (.int .i64 0))), .mk none (some 4) (.mv (.tmp 8))] (some [4])) .ret))
theorem ok_zyx5 : compC Tryz.prog an_zyx5 (Tryz.f96.body.getD .skip) = some ac_zyx5 := by kernel_rfl
theorem dst_zyx5 : ac_zyx5.dstOK Tryz.f96.ntmps (fun i => decide (i < Tryz.f96.ntmps)) = true := by kernel_rfl

def an_zwcip : Ann := ⟨[(0, [0, 1, 2]), (1, [4])], [], []⟩
def ac_zwcip : AC := (.seq (.region [.mk none (some 4) (.mv (.const (.bool false)))] (some [0, 1, 2])) (.seq (.region [.mk none (some 5) (.load none (.tmp 1)), .mk none (some 6) (.load none (.tmp 2)), .mk none (some 7) (.mv (.tmp 0)), .mk none (some 8) (.callv (.tmp 5) [.tmp 6, .tmp 7]), .mk none (some 4) (.mv (.tmp 8))] (some [4])) .ret))
theorem ok_zwcip : compC Tryz.prog an_zwcip (Tryz.f97.body.getD .skip) = some ac_zwcip := by kernel_rfl
theorem dst_zwcip : ac_zwcip.dstOK Tryz.f97.ntmps (fun i => decide (i < Tryz.f97.ntmps)) = true := by kernel_rfl

def an_z31hg : Ann := ⟨[(0, [1, 2]), (1, [3])], [], []⟩
def ac_z31hg : AC := (.seq (.region [.mk none (some 2) (.box 52 (.tmp 0)), .mk none (some 3) (.mv (.const (.bool false)))] (some [1, 2])) (.seq (.region [.mk none (some 4) (.load none (.tmp 1)), .mk none (some 5) (.load (some 4) (.tmp 2)), .mk none (some 6) (.callv (.tmp 4) [.tmp 5]), .mk none (some 7) (.un .not (.tmp 6)), .mk none (some 3) (.mv (.tmp 7))] (some [3])) .ret))
theorem ok_z31hg : compC Tryz.prog an_z31hg (Tryz.f99.body.getD .skip) = some ac_z31hg := by kernel_rfl
theorem dst_z31hg : ac_z31hg.dstOK Tryz.f99.ntmps (fun i => decide (i < Tryz.f99.ntmps)) = true := by kernel_rfl

def an_z1wya : Ann := ⟨[(0, [0, 1]), (1, [3])], [], []⟩
def ac_z1wya : AC := (.seq (.region [.mk none (some 3) (.mv (.const (.bool false)))] (some [0, 1])) (.seq (.region [.mk none (some 4) (.load none (.tmp 1)), .mk none (some 5) (.mv (.tmp 0)), .mk none (some 6) (.callv (.tmp 4) [.tmp 5]), .mk none (some 7) (.un .not (.tmp 6)), .mk none (some 3) (.mv (.tmp 7))] (some [3])) .ret))
theorem ok_z1wya : compC Tryz.prog an_z1wya (Tryz.f100.body.getD .skip) = some ac_z1wya := by kernel_rfl
theorem dst_z1wya : ac_z1wya.dstOK Tryz.f100.ntmps (fun i => decide (i < Tryz.f100.ntmps)) = true := by kernel_rfl

def an_zwd90 : Ann := ⟨[(0, [0, 1]), (1, [4])], [], []⟩
def ac_zwd90 : AC := (.seq (.region [.mk none (some 4) (.mv (.const (.bool false)))] (some [0, 1])) (.seq (.region [.mk none (some 5) (.mv (.tmp 0)), .mk none (some 6) (.mv (.tmp 1)), .mk none (some 7) (.call 127 [.tmp 5, .tmp 6]), .mk none (some 8) (.bin .geq (.tmp 7) (.const (.int .i64 0))), .mk none (some 4) (.mv (.tmp 8))] (some [4])) .ret))
theorem ok_zwd90 : compC Tryz.prog an_zwd90 (Tryz.f101.body.getD .skip) = some ac_zwd90 := by kernel_rfl
theorem dst_zwd90 : ac_zwd90.dstOK Tryz.f101.ntmps (fun i => decide (i < Tryz.f101.ntmps)) = true := by kernel_rfl

def an_z8keb : Ann := ⟨[(0, [1, 2]), (1, [3])], [], []⟩
def ac_z8keb : AC := (.seq (.region [.mk none (some 2) (.box 58 (.tmp 0)), .mk none (some 3) (.mv (.const (.bool false)))] (some [1, 2])) (.seq (.region [.mk none (some 4) (.load none (.tmp 1)), .mk none (some 5) (.load (some 3) (.tmp 2)), .mk none (some 6) (.callv (.tmp 4) [.tmp 5]), .mk none (some 7) (.un .not (.tmp 6)), .mk none (some 3) (.mv (.tmp 7))] (some [3])) .ret))
theorem ok_z8keb : compC Tryz.prog an_z8keb (Tryz.f102.body.getD .skip) = some ac_z8keb := by kernel_rfl
theorem dst_z8keb : ac_z8keb.dstOK Tryz.f102.ntmps (fun i => decide (i < Tryz.f102.ntmps)) = true := by kernel_rfl

def an_ziqd0 : Ann := ⟨[(0, [0, 1, 5]), (1, [6])], [], []⟩
def ac_ziqd0 : AC := (.seq (.region [.mk none (some 5) (.box 146 (.tmp 2)), .mk none (some 6) (.mv (.const (.bool false)))] (some [0, 1, 5])) (.seq (.region [.mk none (some 7) (.mv (.tmp 0)), .mk none (some 8) (.len (.tmp 7) false), .mk none (some 9) (.mv (.tmp 1)), .mk none (some 10) (.bin .leq (.tmp 8) (.tmp 9)), .mk none (some 11) (.mv (.tmp 10)), .mk (some (11, true)) (some 12) (.mv (.tmp 0)), .mk (some (11, true)) (some 13) (.mkfn 129 [.tmp 5]), .mk (some (11, true)) (some 14) (.call 128 [.tmp 12, .tmp 13]), .mk (some (11, true)) (some 15) (.un .not (.tmp 14)), .mk none (some 16) (.pick (.tmp 11) (.tmp 15) (.const (.bool false))), .mk none (some 6) (.mv (.tmp 16))] (some [6])) .ret))
theorem ok_ziqd0 : compC Tryz.prog an_ziqd0 (Tryz.f103.body.getD .skip) = some ac_ziqd0 := by kernel_rfl
theorem dst_ziqd0 : ac_ziqd0.dstOK Tryz.f103.ntmps (fun i => decide (i < Tryz.f103.ntmps)) = true := by kernel_rfl

def an_zb5o4 : Ann := ⟨[(0, [0, 1, 5]), (1, [6])], [], []⟩
def ac_zb5o4 : AC := (.seq (.region [.mk none (some 5) (.box 149 (.tmp 2)), .mk none (some 6) (.mv (.const (.bool false)))] (some [0, 1, 5])) (.seq (.region [.mk none (some 7) (.mv (.tmp 0)), .mk none (some 8) (.len (.tmp 7) false), .mk none (some 9) (.mv (.tmp 1)), .mk none (some 10) (.bin .leq (.tmp 8) (.tmp 9)), .mk none (some 11) (.mv (.tmp 10)), .mk (some (11, true)) (some 12) (.mv (.tmp 0)), .mk (some (11, true)) (some 13) (.mkfn 145 [.tmp 5]), .mk (some (11, true)) (some 14) (.call 144 [.tmp 12, .tmp 13]), .mk (some (11, true)) (some 15) (.un .not (.tmp 14)), .mk none (some 16) (.pick (.tmp 11) (.tmp 15) (.const (.bool false))), .mk none (some 6) (.mv (.tmp 16))] (some [6])) .ret))
theorem ok_zb5o4 : compC Tryz.prog an_zb5o4 (Tryz.f106.body.getD .skip) = some ac_zb5o4 := by kernel_rfl
theorem dst_zb5o4 : ac_zb5o4.dstOK Tryz.f106.ntmps (fun i => decide (i < Tryz.f106.ntmps)) = true := by kernel_rfl

def an_z7q8a : Ann := ⟨[(0, [1, 2]), (1, [3])], [], []⟩
def ac_z7q8a : AC := (.seq (.region [.mk none (some 2) (.box 82 (.tmp 0)), .mk none (some 3) (.mv (.const (.bool false)))] (some [1, 2])) (.seq (.region [.mk none (some 4) (.load none (.tmp 1)), .mk none (some 5) (.load (some 3) (.tmp 2)), .mk none (some 6) (.callv (.tmp 4) [.tmp 5]), .mk none (some 7) (.un .not (.tmp 6)), .mk none (some 3) (.mv (.tmp 7))] (some [3])) .ret))
theorem ok_z7q8a : compC Tryz.prog an_z7q8a (Tryz.f111.body.getD .skip) = some ac_z7q8a := by kernel_rfl
theorem dst_z7q8a : ac_z7q8a.dstOK Tryz.f111.ntmps (fun i => decide (i < Tryz.f111.ntmps)) = true := by kernel_rfl

def an_zjaw1 : Ann := ⟨[(0, [0, 1, 2]), (1, [0, 1, 2, 14]), (2, [6]), (3, [1, 2, 15, 16, 17]), (4, [1, 2, 15, 16, 17, 18]), (5, [1, 2, 7, 8, 15, 16, 17]), (6, [1, 2, 8, 9, 15, 16, 17]), (7, [1, 2, 15, 16, 17, 30]), (8, [6]), (9, [1, 2, 15, 16, 17]), (10, [6])], [], []⟩
def ac_zjaw1 : AC := (.seq (.region [.mk none (some 6) (.mv (.const (.bool false)))] (some [0, 1, 2])) (.seq (.seq (.region [.mk none (some 10) (.mv (.tmp 0)), .mk none (some 11) (.len (.tmp 10) false), .mk none (some 12) (.mv (.tmp 1)), .mk none (some 13) (.len (.tmp 12) false), .mk none (some 14) (.bin .neq (.tmp 11) (.tmp 13))] (some [0, 1, 2, 14])) (.cond (.tmp 14) (.seq (.region [.mk none (some 6) (.mv (.const (.bool false)))] (some [6])) .ret) .skip)) (.seq (.seq (.region [.mk none (some 15) (.mv (.tmp 0)), .mk none (some 16) (.len (.tmp 15) false), .mk none (some 17) (.mv (.const (.int .i64 0)))] (some [1, 2, 15, 16, 17])) (.block 0 (.loop (.seq (.region [.mk none (some 18) (.bin .lss (.tmp 17) (.tmp 16))] (some [1, 2, 15, 16, 17, 18])) (.seq (.cond (.tmp 18) .skip (.exit 0)) (.seq (.block 1 (.seq (.region [.mk none (some 19) (.mv (.tmp 17)), .mk none (some 20) (.idxA 5 (.tmp 15) (.tmp 17)), .mk none (some 21) (.load (some 5) (.tmp 20)), .mk none (some 8) (.alloc 62 [.pd (.raw (.int .i64 0)), .pd (.raw (.string ⟨#[]⟩)), .pd (.raw (.string ⟨#[]⟩)), .nils, .nils]), .mk none (some 7) (.mv (.tmp 19)), .mk none none (.store 5 (.tmp 8) (.tmp 21))] (some [1, 2, 7, 8, 15, 16, 17])) (.seq (.region [.mk none (some 22) (.mv (.tmp 1)), .mk none (some 23) (.mv (.tmp 7)), .mk none (some 24) (.idxA 5 (.tmp 22) (.tmp 23)), .mk none (some 25) (.load (some 5) (.tmp 24)), .mk none (some 9) (.alloc 62 [.pd (.raw (.int .i64 0)), .pd (.raw (.string ⟨#[]⟩)), .pd (.raw (.string ⟨#[]⟩)), .nils, .nils]), .mk none none (.store 5 (.tmp 9) (.tmp 25))] (some [1, 2, 8, 9, 15, 16, 17])) (.seq (.region [.mk none (some 26) (.mv (.tmp 2)), .mk none (some 27) (.load (some 5) (.tmp 8)), .mk none (some 28) (.load (some 5) (.tmp 9)), .mk none (some 29) (.callv (.tmp 26) [.tmp 27, .tmp 28]), .mk none (some 30) (.un .not (.tmp 29))] (some [1, 2, 15, 16, 17, 30])) (.cond (.tmp 30) (.seq (.region [.mk none (some 6) (.mv (.const (.bool false)))] (some [6])) .ret) .skip))))) (.region [.mk none (some 31) (.bin .add (.tmp 17) (.const (.int .i64 1))), .mk none (some 17) (.mv (.tmp 31))] (some [1, 2, 15, 16, 17])))))))) (.seq (.region [.mk none (some 6) (.mv (.const (.bool true)))] (some [6])) .ret))))
theorem ok_zjaw1 : compC Tryz.prog an_zjaw1 (Tryz.f113.body.getD .skip) = some ac_zjaw1 := by kernel_rfl
theorem dst_zjaw1 : ac_zjaw1.dstOK Tryz.f113.ntmps (fun i => decide (i < Tryz.f113.ntmps)) = true := by kernel_rfl

def an_z7uuy : Ann := ⟨[(0, [0, 1]), (1, [0, 1, 10]), (2, [4]), (3, [0, 1, 12, 13]), (4, [0, 1, 12, 13, 14]), (5, [0, 1, 5, 12, 13]), (6, [0, 1, 12, 13, 24]), (7, [4]), (8, [0, 1, 12, 13]), (9, [4])], [(6, ([0, 0, 3, 7, 0, 0, 48, 112, 255], .take 0 (.take 1 (.take 2 (.take 3 (.take 4 (.take 5 (.take 6 (.take 7 (.take 8 (.done)))))))))))], []⟩
def ac_z7uuy : AC := (.seq (.region [.mk none (some 4) (.mv (.const (.bool false)))] (some [0, 1])) (.seq (.seq (.region [.mk none (some 6) (.mv (.tmp 0)), .mk none (some 7) (.len (.tmp 6) false), .mk none (some 8) (.mv (.tmp 1)), .mk none (some 9) (.len (.tmp 8) false), .mk none (some 10) (.bin .neq (.tmp 7) (.tmp 9))] (some [0, 1, 10])) (.cond (.tmp 10) (.seq (.region [.mk none (some 4) (.mv (.const (.bool false)))] (some [4])) .ret) .skip)) (.seq (.seq (.region [.mk none (some 11) (.mv (.tmp 0)), .mk none (some 12) (.len (.tmp 11) false), .mk none (some 13) (.mv (.const (.int .i64 0)))] (some [0, 1, 12, 13])) (.block 0 (.loop (.seq (.region [.mk none (some 14) (.bin .lss (.tmp 13) (.tmp 12))] (some [0, 1, 12, 13, 14])) (.seq (.cond (.tmp 14) .skip (.exit 0)) (.seq (.block 1 (.seq (.region [.mk none (some 15) (.mv (.tmp 13)), .mk none (some 5) (.mv (.tmp 15))] (some [0, 1, 5, 12, 13])) (.seq (.draw [.mk none (some 16) (.mv (.tmp 0)), .mk none (some 17) (.mv (.tmp 5)), .mk none (some 18) (.idxA 8 (.tmp 16) (.tmp 17)), .mk none (some 19) (.load (some 8) (.tmp 18)), .mk none (some 20) (.mv (.tmp 1)), .mk none (some 21) (.mv (.tmp 5)), .mk none (some 22) (.idxA 8 (.tmp 20) (.tmp 21)), .mk none (some 23) (.load (some 8) (.tmp 22)), .mk none (some 24) (.eqs true [.int, .str, .str, .str, .int, .str, .bool, .int] (.tmp 19) (.tmp 23))] [0, 0, 3, 7, 0, 0, 48, 112, 255] (.take 0 (.take 1 (.take 2 (.take 3 (.take 4 (.take 5 (.take 6 (.take 7 (.take 8 .done))))))))) (some [0, 1, 12, 13, 24])) (.cond (.tmp 24) (.seq (.region [.mk none (some 4) (.mv (.const (.bool false)))] (some [4])) .ret) .skip)))) (.region [.mk none (some 25) (.bin .add (.tmp 13) (.const (.int .i64 1))), .mk none (some 13) (.mv (.tmp 25))] (some [0, 1, 12, 13])))))))) (.seq (.region [.mk none (some 4) (.mv (.const (.bool true)))] (some [4])) .ret))))
theorem ok_z7uuy : compC Tryz.prog an_z7uuy (Tryz.f115.body.getD .skip) = some ac_z7uuy := by kernel_rfl
theorem dst_z7uuy : ac_z7uuy.dstOK Tryz.f115.ntmps (fun i => decide (i < Tryz.f115.ntmps)) = true := by kernel_rfl

def an_ztr0f : Ann := ⟨[(0, [0, 1]), (1, [0, 1, 10]), (2, [4]), (3, [0, 1, 12, 13]), (4, [0, 1, 12, 13, 14]), (5, [0, 1, 5, 12, 13]), (6, [0, 1, 12, 13, 24]), (7, [4]), (8, [0, 1, 12, 13]), (9, [4])], [(6, ([0, 0, 3, 7, 0, 0, 48, 112, 255], .take 0 (.take 1 (.take 2 (.take 3 (.take 4 (.take 5 (.take 6 (.take 7 (.take 8 (.done)))))))))))], []⟩
def ac_ztr0f : AC := (.seq (.region [.mk none (some 4) (.mv (.const (.bool false)))] (some [0, 1])) (.seq (.seq (.region [.mk none (some 6) (.mv (.tmp 0)), .mk none (some 7) (.len (.tmp 6) false), .mk none (some 8) (.mv (.tmp 1)), .mk none (some 9) (.len (.tmp 8) false), .mk none (some 10) (.bin .neq (.tmp 7) (.tmp 9))] (some [0, 1, 10])) (.cond (.tmp 10) (.seq (.region [.mk none (some 4) (.mv (.const (.bool false)))] (some [4])) .ret) .skip)) (.seq (.seq (.region [.mk none (some 11) (.mv (.tmp 0)), .mk none (some 12) (.len (.tmp 11) false), .mk none (some 13) (.mv (.const (.int .i64 0)))] (some [0, 1, 12, 13])) (.block 0 (.loop (.seq (.region [.mk none (some 14) (.bin .lss (.tmp 13) (.tmp 12))] (some [0, 1, 12, 13, 14])) (.seq (.cond (.tmp 14) .skip (.exit 0)) (.seq (.block 1 (.seq (.region [.mk none (some 15) (.mv (.tmp 13)), .mk none (some 5) (.mv (.tmp 15))] (some [0, 1, 5, 12, 13])) (.seq (.draw [.mk none (some 16) (.mv (.tmp 0)), .mk none (some 17) (.mv (.tmp 5)), .mk none (some 18) (.idxA 5 (.tmp 16) (.tmp 17)), .mk none (some 19) (.load (some 5) (.tmp 18)), .mk none (some 20) (.mv (.tmp 1)), .mk none (some 21) (.mv (.tmp 5)), .mk none (some 22) (.idxA 5 (.tmp 20) (.tmp 21)), .mk none (some 23) (.load (some 5) (.tmp 22)), .mk none (some 24) (.eqs true [.int, .str, .str, .int, .int] (.tmp 19) (.tmp 23))] [0, 0, 3, 7, 0, 0, 48, 112, 255] (.take 0 (.take 1 (.take 2 (.take 3 (.take 4 (.take 5 (.take 6 (.take 7 (.take 8 .done))))))))) (some [0, 1, 12, 13, 24])) (.cond (.tmp 24) (.seq (.region [.mk none (some 4) (.mv (.const (.bool false)))] (some [4])) .ret) .skip)))) (.region [.mk none (some 25) (.bin .add (.tmp 13) (.const (.int .i64 1))), .mk none (some 13) (.mv (.tmp 25))] (some [0, 1, 12, 13])))))))) (.seq (.region [.mk none (some 4) (.mv (.const (.bool true)))] (some [4])) .ret))))
theorem ok_ztr0f : compC Tryz.prog an_ztr0f (Tryz.f116.body.getD .skip) = some ac_ztr0f := by kernel_rfl
theorem dst_ztr0f : ac_ztr0f.dstOK Tryz.f116.ntmps (fun i => decide (i < Tryz.f116.ntmps)) = true := by kernel_rfl

def an_zrckh : Ann := ⟨[(0, [0, 1]), (1, [0, 1, 7, 8]), (2, [0, 1, 7, 8, 9]), (3, [0, 1, 5, 7, 8]), (4, [0, 1, 5, 7, 8, 16]), (5, [4]), (6, [0, 1, 7, 8]), (7, [4])], [], []⟩
def ac_zrckh : AC := (.seq (.region [.mk none (some 4) (.mv (.const (.int .i64 0)))] (some [0, 1])) (.seq (.seq (.region [.mk none (some 6) (.mv (.tmp 0)), .mk none (some 7) (.len (.tmp 6) false), .mk none (some 8) (.mv (.const (.int .i64 0)))] (some [0, 1, 7, 8])) (.block 0 (.loop (.seq (.region [.mk none (some 9) (.bin .lss (.tmp 8) (.tmp 7))] (some [0, 1, 7, 8, 9])) (.seq (.cond (.tmp 9) .skip (.exit 0)) (.seq (.block 1 (.seq (.region [.mk none (some 10) (.mv (.tmp 8)), .mk none (some 5) (.mv (.tmp 10))] (some [0, 1, 5, 7, 8])) (.seq (.region [.mk none (some 11) (.mv (.tmp 1)), .mk none (some 12) (.mv (.tmp 0)), .mk none (some 13) (.mv (.tmp 5)), .mk none (some 14) (.idxA 1 (.tmp 12) (.tmp 13)), .mk none (some 15) (.load none (.tmp 14)), .mk none (some 16) (.callv (.tmp 11) [.tmp 15])] (some [0, 1, 5, 7, 8, 16])) (.cond (.tmp 16) (.seq (.region [.mk none (some 17) (.mv (.tmp 5)), .mk none (some 4) (.mv (.tmp 17))] (some [4])) .ret) .skip)))) (.region [.mk none (some 18) (.bin .add (.tmp 8) (.const (.int .i64 1))), .mk none (some 8) (.mv (.tmp 18))] (some [0, 1, 7, 8])))))))) (.seq (.region [.mk none (some 4) (.mv (.const (.int .i64 (-1))))] (some [4])) .ret)))
theorem ok_zrckh : compC Tryz.prog an_zrckh (Tryz.f117.body.getD .skip) = some ac_zrckh := by kernel_rfl
theorem dst_zrckh : ac_zrckh.dstOK Tryz.f117.ntmps (fun i => decide (i < Tryz.f117.ntmps)) = true := by kernel_rfl

def an_z3tfr : Ann := ⟨[(0, [0, 1]), (1, [0, 1, 7, 8]), (2, [0, 1, 7, 8, 9]), (3, [0, 1, 5, 7, 8]), (4, [0, 1, 5, 7, 8, 16]), (5, [4]), (6, [0, 1, 7, 8]), (7, [4])], [], []⟩
def ac_z3tfr : AC := (.seq (.region [.mk none (some 4) (.mv (.const (.int .i64 0)))] (some [0, 1])) (.seq (.seq (.region [.mk none (some 6) (.mv (.tmp 0)), .mk none (some 7) (.len (.tmp 6) false), .mk none (some 8) (.mv (.const (.int .i64 0)))] (some [0, 1, 7, 8])) (.block 0 (.loop (.seq (.region [.mk none (some 9) (.bin .lss (.tmp 8) (.tmp 7))] (some [0, 1, 7, 8, 9])) (.seq (.cond (.tmp 9) .skip (.exit 0)) (.seq (.block 1 (.seq (.region [.mk none (some 10) (.mv (.tmp 8)), .mk none (some 5) (.mv (.tmp 10))] (some [0, 1, 5, 7, 8])) (.seq (.region [.mk none (some 11) (.mv (.tmp 1)), .mk none (some 12) (.mv (.tmp 0)), .mk none (some 13) (.mv (.tmp 5)), .mk none (some 14) (.idxA 9 (.tmp 12) (.tmp 13)), .mk none (some 15) (.load (some 9) (.tmp 14)), .mk none (some 16) (.callv (.tmp 11) [.tmp 15])] (some [0, 1, 5, 7, 8, 16])) (.cond (.tmp 16) (.seq (.region [.mk none (some 17) (.mv (.tmp 5)), .mk none (some 4) (.mv (.tmp 17))] (some [4])) .ret) .skip)))) (.region [.mk none (some 18) (.bin .add (.tmp 8) (.const (.int .i64 1))), .mk none (some 8) (.mv (.tmp 18))] (some [0, 1, 7, 8])))))))) (.seq (.region [.mk none (some 4) (.mv (.const (.int .i64 (-1))))] (some [4])) .ret)))
theorem ok_z3tfr : compC Tryz.prog an_z3tfr (Tryz.f120.body.getD .skip) = some ac_z3tfr := by kernel_rfl
theorem dst_z3tfr : ac_z3tfr.dstOK Tryz.f120.ntmps (fun i => decide (i < Tryz.f120.ntmps)) = true := by kernel_rfl

def an_zy4fu : Ann := ⟨[(0, [0, 1]), (1, [4])], [], []⟩
def ac_zy4fu : AC := (.seq (.region [.mk none (some 4) (.mv (.const (.bool false)))] (some [0, 1])) (.seq (.region [.mk none (some 5) (.mv (.tmp 0)), .mk none (some 6) (.mv (.tmp 1)), .mk none (some 7) (.call 152 [.tmp 5, .tmp 6]), .mk none (some 8) (.bin .geq (.tmp 7) (.const (.int .i64 0))), .mk none (some 4) (.mv (.tmp 8))] (some [4])) .ret))
theorem ok_zy4fu : compC Tryz.prog an_zy4fu (Tryz.f121.body.getD .skip) = some ac_zy4fu := by kernel_rfl
theorem dst_zy4fu : ac_zy4fu.dstOK Tryz.f121.ntmps (fun i => decide (i < Tryz.f121.ntmps)) = true := by kernel_rfl

def an_zwjxg : Ann := ⟨[(0, [0, 1]), (1, [0, 1, 7, 8]), (2, [0, 1, 7, 8, 9]), (3, [0, 1, 5, 7, 8]), (4, [0, 1, 5, 7, 8, 16]), (5, [4]), (6, [0, 1, 7, 8]), (7, [4])], [], []⟩
def ac_zwjxg : AC := (.seq (.region [.mk none (some 4) (.mv (.const (.int .i64 0)))] (some [0, 1])) (.seq (.seq (.region [.mk none (some 6) (.mv (.tmp 0)), .mk none (some 7) (.len (.tmp 6) false), .mk none (some 8) (.mv (.const (.int .i64 0)))] (some [0, 1, 7, 8])) (.block 0 (.loop (.seq (.region [.mk none (some 9) (.bin .lss (.tmp 8) (.tmp 7))] (some [0, 1, 7, 8, 9])) (.seq (.cond (.tmp 9) .skip (.exit 0)) (.seq (.block 1 (.seq (.region [.mk none (some 10) (.mv (.tmp 8)), .mk none (some 5) (.mv (.tmp 10))] (some [0, 1, 5, 7, 8])) (.seq (.region [.mk none (some 11) (.mv (.tmp 1)), .mk none (some 12) (.mv (.tmp 0)), .mk none (some 13) (.mv (.tmp 5)), .mk none (some 14) (.idxA 4 (.tmp 12) (.tmp 13)), .mk none (some 15) (.load (some 4) (.tmp 14)), .mk none (some 16) (.callv (.tmp 11) [.tmp 15])] (some [0, 1, 5, 7, 8, 16])) (.cond (.tmp 16) (.seq (.region [.mk none (some 17) (.mv (.tmp 5)), .mk none (some 4) (.mv (.tmp 17))] (some [4])) .ret) .skip)))) (.region [.mk none (some 18) (.bin .add (.tmp 8) (.const (.int .i64 1))), .mk none (some 8) (.mv (.tmp 18))] (some [0, 1, 7, 8])))))))) (.seq (.region [.mk none (some 4) (.mv (.const (.int .i64 (-1))))] (some [4])) .ret)))
theorem ok_zwjxg : compC Tryz.prog an_zwjxg (Tryz.f124.body.getD .skip) = some ac_zwjxg := by kernel_rfl
theorem dst_zwjxg : ac_zwjxg.dstOK Tryz.f124.ntmps (fun i => decide (i < Tryz.f124.ntmps)) = true := by kernel_rfl

def an_zski5 : Ann := ⟨[(0, [0, 1]), (1, [0, 1, 7, 8]), (2, [0, 1, 7, 8, 9]), (3, [0, 1, 5, 7, 8]), (4, [0, 1, 5, 7, 8, 16]), (5, [4]), (6, [0, 1, 7, 8]), (7, [4])], [], []⟩
def ac_zski5 : AC := (.seq (.region [.mk none (some 4) (.mv (.const (.int .i64 0)))] (some [0, 1])) (.seq (.seq (.region [.mk none (some 6) (.mv (.tmp 0)), .mk none (some 7) (.len (.tmp 6) false), .mk none (some 8) (.mv (.const (.int .i64 0)))] (some [0, 1, 7, 8])) (.block 0 (.loop (.seq (.region [.mk none (some 9) (.bin .lss (.tmp 8) (.tmp 7))] (some [0, 1, 7, 8, 9])) (.seq (.cond (.tmp 9) .skip (.exit 0)) (.seq (.block 1 (.seq (.region [.mk none (some 10) (.mv (.tmp 8)), .mk none (some 5) (.mv (.tmp 10))] (some [0, 1, 5, 7, 8])) (.seq (.region [.mk none (some 11) (.mv (.tmp 1)), .mk none (some 12) (.mv (.tmp 0)), .mk none (some 13) (.mv (.tmp 5)), .mk none (some 14) (.idxA 1 (.tmp 12) (.tmp 13)), .mk none (some 15) (.load none (.tmp 14)), .mk none (some 16) (.callv (.tmp 11) [.tmp 15])] (some [0, 1, 5, 7, 8, 16])) (.cond (.tmp 16) (.seq (.region [.mk none (some 17) (.mv (.tmp 5)), .mk none (some 4) (.mv (.tmp 17))] (some [4])) .ret) .skip)))) (.region [.mk none (some 18) (.bin .add (.tmp 8) (.const (.int .i64 1))), .mk none (some 8) (.mv (.tmp 18))] (some [0, 1, 7, 8])))))))) (.seq (.region [.mk none (some 4) (.mv (.const (.int .i64 (-1))))] (some [4])) .ret)))
theorem ok_zski5 : compC Tryz.prog an_zski5 (Tryz.f125.body.getD .skip) = some ac_zski5 := by kernel_rfl
theorem dst_zski5 : ac_zski5.dstOK Tryz.f125.ntmps (fun i => decide (i < Tryz.f125.ntmps)) = true := by kernel_rfl

def an_zwh23 : Ann := ⟨[(0, [0, 1]), (1, [0, 1, 7, 8]), (2, [0, 1, 7, 8, 9]), (3, [0, 1, 5, 7, 8]), (4, [0, 1, 5, 7, 8, 16]), (5, [4]), (6, [0, 1, 7, 8]), (7, [4])], [], []⟩
def ac_zwh23 : AC := (.seq (.region [.mk none (some 4) (.mv (.const (.int .i64 0)))] (some [0, 1])) (.seq (.seq (.region [.mk none (some 6) (.mv (.tmp 0)), .mk none (some 7) (.len (.tmp 6) false), .mk none (some 8) (.mv (.const (.int .i64 0)))] (some [0, 1, 7, 8])) (.block 0 (.loop (.seq (.region [.mk none (some 9) (.bin .lss (.tmp 8) (.tmp 7))] (some [0, 1, 7, 8, 9])) (.seq (.cond (.tmp 9) .skip (.exit 0)) (.seq (.block 1 (.seq (.region [.mk none (some 10) (.mv (.tmp 8)), .mk none (some 5) (.mv (.tmp 10))] (some [0, 1, 5, 7, 8])) (.seq (.region [.mk none (some 11) (.mv (.tmp 1)), .mk none (some 12) (.mv (.tmp 0)), .mk none (some 13) (.mv (.tmp 5)), .mk none (some 14) (.idxA 3 (.tmp 12) (.tmp 13)), .mk none (some 15) (.load (some 3) (.tmp 14)), .mk none (some 16) (.callv (.tmp 11) [.tmp 15])] (some [0, 1, 5, 7, 8, 16])) (.cond (.tmp 16) (.seq (.region [.mk none (some 17) (.mv (.tmp 5)), .mk none (some 4) (.mv (.tmp 17))] (some [4])) .ret) .skip)))) (.region [.mk none (some 18) (.bin .add (.tmp 8) (.const (.int .i64 1))), .mk none (some 8) (.mv (.tmp 18))] (some [0, 1, 7, 8])))))))) (.seq (.region [.mk none (some 4) (.mv (.const (.int .i64 (-1))))] (some [4])) .ret)))
theorem ok_zwh23 : compC Tryz.prog an_zwh23 (Tryz.f127.body.getD .skip) = some ac_zwh23 := by kernel_rfl
theorem dst_zwh23 : ac_zwh23.dstOK Tryz.f127.ntmps (fun i => decide (i < Tryz.f127.ntmps)) = true := by kernel_rfl

def an_zmyh8 : Ann := ⟨[(0, [0, 1]), (1, [4])], [], []⟩
def ac_zmyh8 : AC := (.seq (.region [.mk none (some 4) (.mv (.const (.bool false)))] (some [0, 1])) (.seq (.region [.mk none (some 5) (.mv (.tmp 0)), .mk none (some 6) (.mv (.tmp 1)), .mk none (some 7) (.call 155 [.tmp 5, .tmp 6]), .mk none (some 8) (.bin .geq (.tmp 7) (.const (.int .i64 0))), .mk none (some 4) (.mv (.tmp 8))] (some [4])) .ret))
theorem ok_zmyh8 : compC Tryz.prog an_zmyh8 (Tryz.f128.body.getD .skip) = some ac_zmyh8 := by kernel_rfl
theorem dst_zmyh8 : ac_zmyh8.dstOK Tryz.f128.ntmps (fun i => decide (i < Tryz.f128.ntmps)) = true := by kernel_rfl

def an_z7wca : Ann := ⟨[(0, [1, 2]), (1, [3])], [], []⟩
def ac_z7wca : AC := (.seq (.region [.mk none (some 2) (.box 62 (.tmp 0)), .mk none (some 3) (.mv (.const (.bool false)))] (some [1, 2])) (.seq (.region [.mk none (some 4) (.load none (.tmp 1)), .mk none (some 5) (.load (some 5) (.tmp 2)), .mk none (some 6) (.callv (.tmp 4) [.tmp 5]), .mk none (some 7) (.un .not (.tmp 6)), .mk none (some 3) (.mv (.tmp 7))] (some [3])) .ret))
theorem ok_z7wca : compC Tryz.prog an_z7wca (Tryz.f129.body.getD .skip) = some ac_z7wca := by kernel_rfl
theorem dst_z7wca : ac_z7wca.dstOK Tryz.f129.ntmps (fun i => decide (i < Tryz.f129.ntmps)) = true := by kernel_rfl

def an_zr7hm : Ann := ⟨[(0, [0, 1]), (1, [4])], [], []⟩
def ac_zr7hm : AC := (.seq (.region [.mk none (some 4) (.mv (.const (.bool false)))] (some [0, 1])) (.seq (.region [.mk none (some 5) (.mv (.tmp 0)), .mk none (some 6) (.mv (.tmp 1)), .mk none (some 7) (.call 161 [.tmp 5, .tmp 6]), .mk none (some 8) (.bin .geq (.tmp 7) (.const (.int .i64 0))), .mk none (some 4) (.mv (.tmp 8))] (some [4])) .ret))
theorem ok_zr7hm : compC Tryz.prog an_zr7hm (Tryz.f135.body.getD .skip) = some ac_zr7hm := by kernel_rfl
theorem dst_zr7hm : ac_zr7hm.dstOK Tryz.f135.ntmps (fun i => decide (i < Tryz.f135.ntmps)) = true := by kernel_rfl

def an_zi3lv : Ann := ⟨[(0, [0, 1]), (1, [4])], [], []⟩
def ac_zi3lv : AC := (.seq (.region [.mk none (some 4) (.mv (.const (.bool false)))] (some [0, 1])) (.seq (.region [.mk none (some 5) (.mv (.tmp 0)), .mk none (some 6) (.mv (.tmp 1)), .mk none (some 7) (.call 165 [.tmp 5, .tmp 6]), .mk none (some 8) (.bin .geq (.tmp 7) (.const (.int .i64 0))), .mk none (some 4) (.mv (.tmp 8))] (some [4])) .ret))
theorem ok_zi3lv : compC Tryz.prog an_zi3lv (Tryz.f143.body.getD .skip) = some ac_zi3lv := by kernel_rfl
theorem dst_zi3lv : ac_zi3lv.dstOK Tryz.f143.ntmps (fun i => decide (i < Tryz.f143.ntmps)) = true := by kernel_rfl

def an_z7rwg : Ann := ⟨[(0, [0, 1]), (1, [4])], [], []⟩
def ac_z7rwg : AC := (.seq (.region [.mk none (some 4) (.mv (.const (.bool false)))] (some [0, 1])) (.seq (.region [.mk none (some 5) (.mv (.tmp 0)), .mk none (some 6) (.mv (.tmp 1)), .mk none (some 7) (.call 166 [.tmp 5, .tmp 6]), .mk none (some 8) (.bin .geq (.tmp 7) (.const (.int .i64 0))), .mk none (some 4) (.mv (.tmp 8))] (some [4])) .ret))
theorem ok_z7rwg : compC Tryz.prog an_z7rwg (Tryz.f144.body.getD .skip) = some ac_z7rwg := by kernel_rfl
theorem dst_z7rwg : ac_z7rwg.dstOK Tryz.f144.ntmps (fun i => decide (i < Tryz.f144.ntmps)) = true := by kernel_rfl

def an_zi55u : Ann := ⟨[(0, [1, 2]), (1, [3])], [], []⟩
def ac_zi55u : AC := (.seq (.region [.mk none (some 2) (.box 65 (.tmp 0)), .mk none (some 3) (.mv (.const (.bool false)))] (some [1, 2])) (.seq (.region [.mk none (some 4) (.load none (.tmp 1)), .mk none (some 5) (.load (some 5) (.tmp 2)), .mk none (some 6) (.callv (.tmp 4) [.tmp 5]), .mk none (some 7) (.un .not (.tmp 6)), .mk none (some 3) (.mv (.tmp 7))] (some [3])) .ret))
theorem ok_zi55u : compC Tryz.prog an_zi55u (Tryz.f145.body.getD .skip) = some ac_zi55u := by kernel_rfl
theorem dst_zi55u : ac_zi55u.dstOK Tryz.f145.ntmps (fun i => decide (i < Tryz.f145.ntmps)) = true := by kernel_rfl

def an_zdsnp : Ann := ⟨[(0, [0, 1, 2]), (1, [0, 1, 2, 14]), (2, [6]), (3, [1, 2, 15, 16, 17]), (4, [1, 2, 15, 16, 17, 18]), (5, [1, 2, 7, 8, 15, 16, 17]), (6, [1, 2, 8, 9, 15, 16, 17]), (7, [1, 2, 15, 16, 17, 30]), (8, [6]), (9, [1, 2, 15, 16, 17]), (10, [6])], [], []⟩
def ac_zdsnp : AC := (.seq (.region [.mk none (some 6) (.mv (.const (.bool false)))] (some [0, 1, 2])) (.seq (.seq (.region [.mk none (some 10) (.mv (.tmp 0)), .mk none (some 11) (.len (.tmp 10) false), .mk none (some 12) (.mv (.tmp 1)), .mk none (some 13) (.len (.tmp 12) false), .mk none (some 14) (.bin .neq (.tmp 11) (.tmp 13))] (some [0, 1, 2, 14])) (.cond (.tmp 14) (.seq (.region [.mk none (some 6) (.mv (.const (.bool false)))] (some [6])) .ret) .skip)) (.seq (.seq (.region [.mk none (some 15) (.mv (.tmp 0)), .mk none (some 16) (.len (.tmp 15) false), .mk none (some 17) (.mv (.const (.int .i64 0)))] (some [1, 2, 15, 16, 17])) (.block 0 (.loop (.seq (.region [.mk none (some 18) (.bin .lss (.tmp 17) (.tmp 16))] (some [1, 2, 15, 16, 17, 18])) (.seq (.cond (.tmp 18) .skip (.exit 0)) (.seq (.block 1 (.seq (.region [.mk none (some 19) (.mv (.tmp 17)), .mk none (some 20) (.idxA 3 (.tmp 15) (.tmp 17)), .mk none (some 21) (.load (some 3) (.tmp 20)), .mk none (some 8) (.alloc 84 [.pd (.raw (.int .i64 0)), .pd (.raw (.string ⟨#[]⟩)), .nils]), .mk none (some 7) (.mv (.tmp 19)), .mk none none (.store 3 (.tmp 8) (.tmp 21))] (some [1, 2, 7, 8, 15, 16, 17])) (.seq (.region [.mk none (some 22) (.mv (.tmp 1)), .mk none (some 23) (.mv (.tmp 7)), .mk none (some 24) (.idxA 3 (.tmp 22) (.tmp 23)), .mk none (some 25) (.load (some 3) (.tmp 24)), .mk none (some 9) (.alloc 84 [.pd (.raw (.int .i64 0)), .pd (.raw (.string ⟨#[]⟩)), .nils]), .mk none none (.store 3 (.tmp 9) (.tmp 25))] (some [1, 2, 8, 9, 15, 16, 17])) (.seq (.region [.mk none (some 26) (.mv (.tmp 2)), .mk none (some 27) (.load (some 3) (.tmp 8)), .mk none (some 28) (.load (some 3) (.tmp 9)), .mk none (some 29) (.callv (.tmp 26) [.tmp 27, .tmp 28]), .mk none (some 30) (.un .not (.tmp 29))] (some [1, 2, 15, 16, 17, 30])) (.cond (.tmp 30) (.seq (.region [.mk none (some 6) (.mv (.const (.bool false)))] (some [6])) .ret) .skip))))) (.region [.mk none (some 31) (.bin .add (.tmp 17) (.const (.int .i64 1))), .mk none (some 17) (.mv (.tmp 31))] (some [1, 2, 15, 16, 17])))))))) (.seq (.region [.mk none (some 6) (.mv (.const (.bool true)))] (some [6])) .ret))))
theorem ok_zdsnp : compC Tryz.prog an_zdsnp (Tryz.f147.body.getD .skip) = some ac_zdsnp := by kernel_rfl
theorem dst_zdsnp : ac_zdsnp.dstOK Tryz.f147.ntmps (fun i => decide (i < Tryz.f147.ntmps)) = true := by kernel_rfl

def an_zijlh : Ann := ⟨[(0, [0, 1]), (1, [0, 1, 7, 8]), (2, [0, 1, 7, 8, 9]), (3, [0, 1, 5, 7, 8]), (4, [0, 1, 5, 7, 8, 16]), (5, [4]), (6, [0, 1, 7, 8]), (7, [4])], [], []⟩
def ac_zijlh : AC := (.seq (.region [.mk none (some 4) (.mv (.const (.int .i64 0)))] (some [0, 1])) (.seq (.seq (.region [.mk none (some 6) (.mv (.tmp 0)), .mk none (some 7) (.len (.tmp 6) false), .mk none (some 8) (.mv (.const (.int .i64 0)))] (some [0, 1, 7, 8])) (.block 0 (.loop (.seq (.region [.mk none (some 9) (.bin .lss (.tmp 8) (.tmp 7))] (some [0, 1, 7, 8, 9])) (.seq (.cond (.tmp 9) .skip (.exit 0)) (.seq (.block 1 (.seq (.region [.mk none (some 10) (.mv (.tmp 8)), .mk none (some 5) (.mv (.tmp 10))] (some [0, 1, 5, 7, 8])) (.seq (.region [.mk none (some 11) (.mv (.tmp 1)), .mk none (some 12) (.mv (.tmp 0)), .mk none (some 13) (.mv (.tmp 5)), .mk none (some 14) (.idxA 3 (.tmp 12) (.tmp 13)), .mk none (some 15) (.load (some 3) (.tmp 14)), .mk none (some 16) (.callv (.tmp 11) [.tmp 15])] (some [0, 1, 5, 7, 8, 16])) (.cond (.tmp 16) (.seq (.region [.mk none (some 17) (.mv (.tmp 5)), .mk none (some 4) (.mv (.tmp 17))] (some [4])) .ret) .skip)))) (.region [.mk none (some 18) (.bin .add (.tmp 8) (.const (.int .i64 1))), .mk none (some 8) (.mv (.tmp 18))] (some [0, 1, 7, 8])))))))) (.seq (.region [.mk none (some 4) (.mv (.const (.int .i64 (-1))))] (some [4])) .ret)))
theorem ok_zijlh : compC Tryz.prog an_zijlh (Tryz.f152.body.getD .skip) = some ac_zijlh := by kernel_rfl
theorem dst_zijlh : ac_zijlh.dstOK Tryz.f152.ntmps (fun i => decide (i < Tryz.f152.ntmps)) = true := by kernel_rfl

def an_zsjmp : Ann := ⟨[(0, [0, 1]), (1, [0, 1, 7, 8]), (2, [0, 1, 7, 8, 9]), (3, [0, 1, 5, 7, 8]), (4, [0, 1, 5, 7, 8, 16]), (5, [4]), (6, [0, 1, 7, 8]), (7, [4])], [], []⟩
def ac_zsjmp : AC := (.seq (.region [.mk none (some 4) (.mv (.const (.int .i64 0)))] (some [0, 1])) (.seq (.seq (.region [.mk none (some 6) (.mv (.tmp 0)), .mk none (some 7) (.len (.tmp 6) false), .mk none (some 8) (.mv (.const (.int .i64 0)))] (some [0, 1, 7, 8])) (.block 0 (.loop (.seq (.region [.mk none (some 9) (.bin .lss (.tmp 8) (.tmp 7))] (some [0, 1, 7, 8, 9])) (.seq (.cond (.tmp 9) .skip (.exit 0)) (.seq (.block 1 (.seq (.region [.mk none (some 10) (.mv (.tmp 8)), .mk none (some 5) (.mv (.tmp 10))] (some [0, 1, 5, 7, 8])) (.seq (.region [.mk none (some 11) (.mv (.tmp 1)), .mk none (some 12) (.mv (.tmp 0)), .mk none (some 13) (.mv (.tmp 5)), .mk none (some 14) (.idxA 5 (.tmp 12) (.tmp 13)), .mk none (some 15) (.load (some 5) (.tmp 14)), .mk none (some 16) (.callv (.tmp 11) [.tmp 15])] (some [0, 1, 5, 7, 8, 16])) (.cond (.tmp 16) (.seq (.region [.mk none (some 17) (.mv (.tmp 5)), .mk none (some 4) (.mv (.tmp 17))] (some [4])) .ret) .skip)))) (.region [.mk none (some 18) (.bin .add (.tmp 8) (.const (.int .i64 1))), .mk none (some 8) (.mv (.tmp 18))] (some [0, 1, 7, 8])))))))) (.seq (.region [.mk none (some 4) (.mv (.const (.int .i64 (-1))))] (some [4])) .ret)))
theorem ok_zsjmp : compC Tryz.prog an_zsjmp (Tryz.f155.body.getD .skip) = some ac_zsjmp := by kernel_rfl
theorem dst_zsjmp : ac_zsjmp.dstOK Tryz.f155.ntmps (fun i => decide (i < Tryz.f155.ntmps)) = true := by kernel_rfl

def an_zdecl : Ann := ⟨[(0, [0, 1]), (1, [0, 1, 7, 8]), (2, [0, 1, 7, 8, 9]), (3, [0, 1, 5, 7, 8]), (4, [0, 1, 5, 7, 8, 16]), (5, [4]), (6, [0, 1, 7, 8]), (7, [4])], [], []⟩
def ac_zdecl : AC := (.seq (.region [.mk none (some 4) (.mv (.const (.int .i64 0)))] (some [0, 1])) (.seq (.seq (.region [.mk none (some 6) (.mv (.tmp 0)), .mk none (some 7) (.len (.tmp 6) false), .mk none (some 8) (.mv (.const (.int .i64 0)))] (some [0, 1, 7, 8])) (.block 0 (.loop (.seq (.region [.mk none (some 9) (.bin .lss (.tmp 8) (.tmp 7))] (some [0, 1, 7, 8, 9])) (.seq (.cond (.tmp 9) .skip (.exit 0)) (.seq (.block 1 (.seq (.region [.mk none (some 10) (.mv (.tmp 8)), .mk none (some 5) (.mv (.tmp 10))] (some [0, 1, 5, 7, 8])) (.seq (.region [.mk none (some 11) (.mv (.tmp 1)), .mk none (some 12) (.mv (.tmp 0)), .mk none (some 13) (.mv (.tmp 5)), .mk none (some 14) (.idxA 2 (.tmp 12) (.tmp 13)), .mk none (some 15) (.load (some 2) (.tmp 14)), .mk none (some 16) (.callv (.tmp 11) [.tmp 15])] (some [0, 1, 5, 7, 8, 16])) (.cond (.tmp 16) (.seq (.region [.mk none (some 17) (.mv (.tmp 5)), .mk none (some 4) (.mv (.tmp 17))] (some [4])) .ret) .skip)))) (.region [.mk none (some 18) (.bin .add (.tmp 8) (.const (.int .i64 1))), .mk none (some 8) (.mv (.tmp 18))] (some [0, 1, 7, 8])))))))) (.seq (.region [.mk none (some 4) (.mv (.const (.int .i64 (-1))))] (some [4])) .ret)))
theorem ok_zdecl : compC Tryz.prog an_zdecl (Tryz.f161.body.getD .skip) = some ac_zdecl := by kernel_rfl
theorem dst_zdecl : ac_zdecl.dstOK Tryz.f161.ntmps (fun i => decide (i < Tryz.f161.ntmps)) = true := by kernel_rfl

def an_zwgkv : Ann := ⟨[(0, [0, 1]), (1, [0, 1, 7, 8]), (2, [0, 1, 7, 8, 9]), (3, [0, 1, 5, 7, 8]), (4, [0, 1, 5, 7, 8, 16]), (5, [4]), (6, [0, 1, 7, 8]), (7, [4])], [], []⟩
def ac_zwgkv : AC := (.seq (.region [.mk none (some 4) (.mv (.const (.int .i64 0)))] (some [0, 1])) (.seq (.seq (.region [.mk none (some 6) (.mv (.tmp 0)), .mk none (some 7) (.len (.tmp 6) false), .mk none (some 8) (.mv (.const (.int .i64 0)))] (some [0, 1, 7, 8])) (.block 0 (.loop (.seq (.region [.mk none (some 9) (.bin .lss (.tmp 8) (.tmp 7))] (some [0, 1, 7, 8, 9])) (.seq (.cond (.tmp 9) .skip (.exit 0)) (.seq (.block 1 (.seq (.region [.mk none (some 10) (.mv (.tmp 8)), .mk none (some 5) (.mv (.tmp 10))] (some [0, 1, 5, 7, 8])) (.seq (.region [.mk none (some 11) (.mv (.tmp 1)), .mk none (some 12) (.mv (.tmp 0)), .mk none (some 13) (.mv (.tmp 5)), .mk none (some 14) (.idxA 8 (.tmp 12) (.tmp 13)), .mk none (some 15) (.load (some 8) (.tmp 14)), .mk none (some 16) (.callv (.tmp 11) [.tmp 15])] (some [0, 1, 5, 7, 8, 16])) (.cond (.tmp 16) (.seq (.region [.mk none (some 17) (.mv (.tmp 5)), .mk none (some 4) (.mv (.tmp 17))] (some [4])) .ret) .skip)))) (.region [.mk none (some 18) (.bin .add (.tmp 8) (.const (.int .i64 1))), .mk none (some 8) (.mv (.tmp 18))] (some [0, 1, 7, 8])))))))) (.seq (.region [.mk none (some 4) (.mv (.const (.int .i64 (-1))))] (some [4])) .ret)))
theorem ok_zwgkv : compC Tryz.prog an_zwgkv (Tryz.f165.body.getD .skip) = some ac_zwgkv := by kernel_rfl
theorem dst_zwgkv : ac_zwgkv.dstOK Tryz.f165.ntmps (fun i => decide (i < Tryz.f165.ntmps)) = true := by kernel_rfl

def an_zbcsd : Ann := ⟨[(0, [0, 1]), (1, [0, 1, 7, 8]), (2, [0, 1, 7, 8, 9]), (3, [0, 1, 5, 7, 8]), (4, [0, 1, 5, 7, 8, 16]), (5, [4]), (6, [0, 1, 7, 8]), (7, [4])], [], []⟩
def ac_zbcsd : AC := (.seq (.region [.mk none (some 4) (.mv (.const (.int .i64 0)))] (some [0, 1])) (.seq (.seq (.region [.mk none (some 6) (.mv (.tmp 0)), .mk none (some 7) (.len (.tmp 6) false), .mk none (some 8) (.mv (.const (.int .i64 0)))] (some [0, 1, 7, 8])) (.block 0 (.loop (.seq (.region [.mk none (some 9) (.bin .lss (.tmp 8) (.tmp 7))] (some [0, 1, 7, 8, 9])) (.seq (.cond (.tmp 9) .skip (.exit 0)) (.seq (.block 1 (.seq (.region [.mk none (some 10) (.mv (.tmp 8)), .mk none (some 5) (.mv (.tmp 10))] (some [0, 1, 5, 7, 8])) (.seq (.region [.mk none (some 11) (.mv (.tmp 1)), .mk none (some 12) (.mv (.tmp 0)), .mk none (some 13) (.mv (.tmp 5)), .mk none (some 14) (.idxA 5 (.tmp 12) (.tmp 13)), .mk none (some 15) (.load (some 5) (.tmp 14)), .mk none (some 16) (.callv (.tmp 11) [.tmp 15])] (some [0, 1, 5, 7, 8, 16])) (.cond (.tmp 16) (.seq (.region [.mk none (some 17) (.mv (.tmp 5)), .mk none (some 4) (.mv (.tmp 17))] (some [4])) .ret) .skip)))) (.region [.mk none (some 18) (.bin .add (.tmp 8) (.const (.int .i64 1))), .mk none (some 8) (.mv (.tmp 18))] (some [0, 1, 7, 8])))))))) (.seq (.region [.mk none (some 4) (.mv (.const (.int .i64 (-1))))] (some [4])) .ret)))
theorem ok_zbcsd : compC Tryz.prog an_zbcsd (Tryz.f166.body.getD .skip) = some ac_zbcsd := by kernel_rfl
theorem dst_zbcsd : ac_zbcsd.dstOK Tryz.f166.ntmps (fun i => decide (i < Tryz.f166.ntmps)) = true := by kernel_rfl

end Go.Proofs.YtmdepehjfnpklaaGreatDoor

namespace Go.Proofs.YtmdepehjfnpklaaGreatDoor
open Go Go.RowKit
set_option linter.unusedSimpArgs false
set_option linter.unusedVariables false
set_option maxRecDepth 100000

theorem IndexFunc_Object (p : AObj → Bool) (g : FuncId) (he : Enters Tryz.prog g) (caps : List (Nat × Nat)) (bs : List (Nat × List D)) (hc : Cl bs caps) (l : List AObj) (hl : l.length ≤ 1000000)
    (hp : ∀ x ∈ l, PureB Tryz.prog g (AObj.d x :: capD caps) bs (fun d => d = bln (p x))) :
    PureB Tryz.prog 33 [.pd (.slice (rows AObj.pd l)), .fn g caps] bs (fun d => d = int (lidx p l 0)) := by
  refine pureB_of_run follows an_z576z Tryz.func33 rfl ok_z576z dst_z576z (by simp [Tryz.ntmps33]) ?_
  rw [run_start]
  simp only [ac_z576z, go_sem, contS_seq, simprocAttr, rows_len]
  refine loopS (fun k st => ∃ i : Nat, k = l.length - i ∧ i ≤ l.length ∧ lidx p (l.drop i) i = lidx p l 0 ∧
    st = ⟨[(0, .pd (.slice (rows AObj.pd l))), (1, .fn g caps), (7, int l.length), (8, int i)], bs, [], .no⟩) l.length _ (Weak.refl _ _) ⟨0, rfl, Nat.zero_le _, rfl, rfl⟩ ?_
  rintro k st ⟨i, rfl, hi, hr, rfl⟩
  by_cases hlt : i < l.length
  · obtain ⟨x, hx⟩ := at_lt hlt
    have hlt' : ((i : Int) < (l.length : Int)) = True := eq_true (by omega)
    have hw := i64_succ (show i < 1000000000 by omega)
    rw [drop_at hx, lidx] at hr
    simp only [go_sem, contS_seq, simprocAttr, hlt', rows_get hx]
    refine (hp x (List.mem_of_getElem? hx)).callW he _ (idr bs) hc.ok (hc.args (by rfl)) hc.see ?_
    rintro d rfl
    simp only [go_sem, contS_seq, simprocAttr]
    refine Gif.mk (fun h => ?_) (fun h => ?_)
    · rw [if_pos h] at hr
      simp only [retK, fullK, iterK, resD, resA, AOp.ex, St.ev, Option.map_some, Option.bind_some, St.get, lk, reduceIte, Nat.reduceEqDiff, Option.getD_some, oneD, List.getElem?_cons_zero, List.getElem?_cons_succ, List.drop_zero, List.drop_succ_cons, List.take_succ_cons, List.take_zero, List.length_cons, List.length_nil, Nat.zero_add, Nat.reduceAdd, Nat.le_refl, Nat.reduceLeDiff, D.pub, D.pubs, Tryz.results33]
      exact ⟨_, rfl, rfl, congrArg int hr⟩
    · rw [if_neg (by simp [h])] at hr
      simp only [go_sem, contS_seq, simprocAttr, hw]
      refine ⟨l.length - (i + 1), _, ?_, ?_, i + 1, rfl, ?_, hr, rfl⟩
      · omega
      · exact Weak.less (by simp [lessL, lk]) (lessL_refl hc.nd) (by simp [lessL, lk]) rfl
      · omega
  · have hlt' : ((i : Int) < (l.length : Int)) = False := eq_false (by omega)
    rw [List.drop_eq_nil_of_le (by omega), lidx] at hr
    simp only [go_sem, contS_seq, simprocAttr, rows_len, hlt']
    simp only [retK, fullK, iterK, resD, resA, AOp.ex, St.ev, Option.map_some, Option.bind_some, St.get, lk, reduceIte, Nat.reduceEqDiff, Option.getD_some, oneD, List.getElem?_cons_zero, List.getElem?_cons_succ, List.drop_zero, List.drop_succ_cons, List.take_succ_cons, List.take_zero, List.length_cons, List.length_nil, Nat.zero_add, Nat.reduceAdd, Nat.le_refl, Nat.reduceLeDiff, D.pub, D.pubs, Tryz.results33]
    exact ⟨_, rfl, rfl, congrArg int hr⟩

theorem IndexFunc_Side (p : ASide → Bool) (g : FuncId) (he : Enters Tryz.prog g) (caps : List (Nat × Nat)) (bs : List (Nat × List D)) (hc : Cl bs caps) (l : List ASide) (hl : l.length ≤ 1000000)
    (hp : ∀ x ∈ l, PureB Tryz.prog g (ASide.d x :: capD caps) bs (fun d => d = bln (p x))) :
    PureB Tryz.prog 82 [.pd (.slice (rows ASide.pd l)), .fn g caps] bs (fun d => d = int (lidx p l 0)) := by
  refine pureB_of_run follows an_zhz8f Tryz.func82 rfl ok_zhz8f dst_zhz8f (by simp [Tryz.ntmps82]) ?_
  rw [run_start]
  simp only [ac_zhz8f, go_sem, contS_seq, simprocAttr, rows_len]
  refine loopS (fun k st => ∃ i : Nat, k = l.length - i ∧ i ≤ l.length ∧ lidx p (l.drop i) i = lidx p l 0 ∧
    st = ⟨[(0, .pd (.slice (rows ASide.pd l))), (1, .fn g caps), (7, int l.length), (8, int i)], bs, [], .no⟩) l.length _ (Weak.refl _ _) ⟨0, rfl, Nat.zero_le _, rfl, rfl⟩ ?_
  rintro k st ⟨i, rfl, hi, hr, rfl⟩
  by_cases hlt : i < l.length
  · obtain ⟨x, hx⟩ := at_lt hlt
    have hlt' : ((i : Int) < (l.length : Int)) = True := eq_true (by omega)
    have hw := i64_succ (show i < 1000000000 by omega)
    rw [drop_at hx, lidx] at hr
    simp only [go_sem, contS_seq, simprocAttr, hlt', rows_get hx]
    refine (hp x (List.mem_of_getElem? hx)).callW he _ (idr bs) hc.ok (hc.args (by rfl)) hc.see ?_
    rintro d rfl
    simp only [go_sem, contS_seq, simprocAttr]
    refine Gif.mk (fun h => ?_) (fun h => ?_)
    · rw [if_pos h] at hr
      simp only [retK, fullK, iterK, resD, resA, AOp.ex, St.ev, Option.map_some, Option.bind_some, St.get, lk, reduceIte, Nat.reduceEqDiff, Option.getD_some, oneD, List.getElem?_cons_zero, List.getElem?_cons_succ, List.drop_zero, List.drop_succ_cons, List.take_succ_cons, List.take_zero, List.length_cons, List.length_nil, Nat.zero_add, Nat.reduceAdd, Nat.le_refl, Nat.reduceLeDiff, D.pub, D.pubs, Tryz.results82]
      exact ⟨_, rfl, rfl, congrArg int hr⟩
    · rw [if_neg (by simp [h])] at hr
      simp only [go_sem, contS_seq, simprocAttr, hw]
      refine ⟨l.length - (i + 1), _, ?_, ?_, i + 1, rfl, ?_, hr, rfl⟩
      · omega
      · exact Weak.less (by simp [lessL, lk]) (lessL_refl hc.nd) (by simp [lessL, lk]) rfl
      · omega
  · have hlt' : ((i : Int) < (l.length : Int)) = False := eq_false (by omega)
    rw [List.drop_eq_nil_of_le (by omega), lidx] at hr
    simp only [go_sem, contS_seq, simprocAttr, rows_len, hlt']
    simp only [retK, fullK, iterK, resD, resA, AOp.ex, St.ev, Option.map_some, Option.bind_some, St.get, lk, reduceIte, Nat.reduceEqDiff, Option.getD_some, oneD, List.getElem?_cons_zero, List.getElem?_cons_succ, List.drop_zero, List.drop_succ_cons, List.take_succ_cons, List.take_zero, List.length_cons, List.length_nil, Nat.zero_add, Nat.reduceAdd, Nat.le_refl, Nat.reduceLeDiff, D.pub, D.pubs, Tryz.results82]
    exact ⟨_, rfl, rfl, congrArg int hr⟩

theorem IndexFunc_int (p : Int → Bool) (g : FuncId) (he : Enters Tryz.prog g) (caps : List (Nat × Nat)) (bs : List (Nat × List D)) (hc : Cl bs caps) (l : List Int) (hl : l.length ≤ 1000000)
    (hp : ∀ x ∈ l, PureB Tryz.prog g (int x :: capD caps) bs (fun d => d = bln (p x))) :
    PureB Tryz.prog 117 [.pd (.slice (rows cInt l)), .fn g caps] bs (fun d => d = int (lidx p l 0)) := by
  refine pureB_of_run follows an_zrckh Tryz.func117 rfl ok_zrckh dst_zrckh (by simp [Tryz.ntmps117]) ?_
  rw [run_start]
  simp only [ac_zrckh, go_sem, contS_seq, simprocAttr, rows_len]
  refine loopS (fun k st => ∃ i : Nat, k = l.length - i ∧ i ≤ l.length ∧ lidx p (l.drop i) i = lidx p l 0 ∧
    st = ⟨[(0, .pd (.slice (rows cInt l))), (1, .fn g caps), (7, int l.length), (8, int i)], bs, [], .no⟩) l.length _ (Weak.refl _ _) ⟨0, rfl, Nat.zero_le _, rfl, rfl⟩ ?_
  rintro k st ⟨i, rfl, hi, hr, rfl⟩
  by_cases hlt : i < l.length
  · obtain ⟨x, hx⟩ := at_lt hlt
    have hlt' : ((i : Int) < (l.length : Int)) = True := eq_true (by omega)
    have hw := i64_succ (show i < 1000000000 by omega)
    rw [drop_at hx, lidx] at hr
    simp only [go_sem, contS_seq, simprocAttr, hlt', rows_get hx]
    refine (hp x (List.mem_of_getElem? hx)).callW he _ (idr bs) hc.ok (hc.args (by rfl)) hc.see ?_
    rintro d rfl
    simp only [go_sem, contS_seq, simprocAttr]
    refine Gif.mk (fun h => ?_) (fun h => ?_)
    · rw [if_pos h] at hr
      simp only [retK, fullK, iterK, resD, resA, AOp.ex, St.ev, Option.map_some, Option.bind_some, St.get, lk, reduceIte, Nat.reduceEqDiff, Option.getD_some, oneD, List.getElem?_cons_zero, List.getElem?_cons_succ, List.drop_zero, List.drop_succ_cons, List.take_succ_cons, List.take_zero, List.length_cons, List.length_nil, Nat.zero_add, Nat.reduceAdd, Nat.le_refl, Nat.reduceLeDiff, D.pub, D.pubs, Tryz.results117]
      exact ⟨_, rfl, rfl, congrArg int hr⟩
    · rw [if_neg (by simp [h])] at hr
      simp only [go_sem, contS_seq, simprocAttr, hw]
      refine ⟨l.length - (i + 1), _, ?_, ?_, i + 1, rfl, ?_, hr, rfl⟩
      · omega
      · exact Weak.less (by simp [lessL, lk]) (lessL_refl hc.nd) (by simp [lessL, lk]) rfl
      · omega
  · have hlt' : ((i : Int) < (l.length : Int)) = False := eq_false (by omega)
    rw [List.drop_eq_nil_of_le (by omega), lidx] at hr
    simp only [go_sem, contS_seq, simprocAttr, rows_len, hlt']
    simp only [retK, fullK, iterK, resD, resA, AOp.ex, St.ev, Option.map_some, Option.bind_some, St.get, lk, reduceIte, Nat.reduceEqDiff, Option.getD_some, oneD, List.getElem?_cons_zero, List.getElem?_cons_succ, List.drop_zero, List.drop_succ_cons, List.take_succ_cons, List.take_zero, List.length_cons, List.length_nil, Nat.zero_add, Nat.reduceAdd, Nat.le_refl, Nat.reduceLeDiff, D.pub, D.pubs, Tryz.results117]
    exact ⟨_, rfl, rfl, congrArg int hr⟩

theorem IndexFunc_Listener (p : AListener → Bool) (g : FuncId) (he : Enters Tryz.prog g) (caps : List (Nat × Nat)) (bs : List (Nat × List D)) (hc : Cl bs caps) (l : List AListener) (hl : l.length ≤ 1000000)
    (hp : ∀ x ∈ l, PureB Tryz.prog g (AListener.d x :: capD caps) bs (fun d => d = bln (p x))) :
    PureB Tryz.prog 120 [.pd (.slice (rows AListener.pd l)), .fn g caps] bs (fun d => d = int (lidx p l 0)) := by
  refine pureB_of_run follows an_z3tfr Tryz.func120 rfl ok_z3tfr dst_z3tfr (by simp [Tryz.ntmps120]) ?_
  rw [run_start]
  simp only [ac_z3tfr, go_sem, contS_seq, simprocAttr, rows_len]
  refine loopS (fun k st => ∃ i : Nat, k = l.length - i ∧ i ≤ l.length ∧ lidx p (l.drop i) i = lidx p l 0 ∧
    st = ⟨[(0, .pd (.slice (rows AListener.pd l))), (1, .fn g caps), (7, int l.length), (8, int i)], bs, [], .no⟩) l.length _ (Weak.refl _ _) ⟨0, rfl, Nat.zero_le _, rfl, rfl⟩ ?_
  rintro k st ⟨i, rfl, hi, hr, rfl⟩
  by_cases hlt : i < l.length
  · obtain ⟨x, hx⟩ := at_lt hlt
    have hlt' : ((i : Int) < (l.length : Int)) = True := eq_true (by omega)
    have hw := i64_succ (show i < 1000000000 by omega)
    rw [drop_at hx, lidx] at hr
    simp only [go_sem, contS_seq, simprocAttr, hlt', rows_get hx]
    refine (hp x (List.mem_of_getElem? hx)).callW he _ (idr bs) hc.ok (hc.args (by rfl)) hc.see ?_
    rintro d rfl
    simp only [go_sem, contS_seq, simprocAttr]
    refine Gif.mk (fun h => ?_) (fun h => ?_)
    · rw [if_pos h] at hr
      simp only [retK, fullK, iterK, resD, resA, AOp.ex, St.ev, Option.map_some, Option.bind_some, St.get, lk, reduceIte, Nat.reduceEqDiff, Option.getD_some, oneD, List.getElem?_cons_zero, List.getElem?_cons_succ, List.drop_zero, List.drop_succ_cons, List.take_succ_cons, List.take_zero, List.length_cons, List.length_nil, Nat.zero_add, Nat.reduceAdd, Nat.le_refl, Nat.reduceLeDiff, D.pub, D.pubs, Tryz.results120]
      exact ⟨_, rfl, rfl, congrArg int hr⟩
    · rw [if_neg (by simp [h])] at hr
      simp only [go_sem, contS_seq, simprocAttr, hw]
      refine ⟨l.length - (i + 1), _, ?_, ?_, i + 1, rfl, ?_, hr, rfl⟩
      · omega
      · exact Weak.less (by simp [lessL, lk]) (lessL_refl hc.nd) (by simp [lessL, lk]) rfl
      · omega
  · have hlt' : ((i : Int) < (l.length : Int)) = False := eq_false (by omega)
    rw [List.drop_eq_nil_of_le (by omega), lidx] at hr
    simp only [go_sem, contS_seq, simprocAttr, rows_len, hlt']
    simp only [retK, fullK, iterK, resD, resA, AOp.ex, St.ev, Option.map_some, Option.bind_some, St.get, lk, reduceIte, Nat.reduceEqDiff, Option.getD_some, oneD, List.getElem?_cons_zero, List.getElem?_cons_succ, List.drop_zero, List.drop_succ_cons, List.take_succ_cons, List.take_zero, List.length_cons, List.length_nil, Nat.zero_add, Nat.reduceAdd, Nat.le_refl, Nat.reduceLeDiff, D.pub, D.pubs, Tryz.results120]
    exact ⟨_, rfl, rfl, congrArg int hr⟩

theorem IndexFunc_Need (p : ANeed → Bool) (g : FuncId) (he : Enters Tryz.prog g) (caps : List (Nat × Nat)) (bs : List (Nat × List D)) (hc : Cl bs caps) (l : List ANeed) (hl : l.length ≤ 1000000)
    (hp : ∀ x ∈ l, PureB Tryz.prog g (ANeed.d x :: capD caps) bs (fun d => d = bln (p x))) :
    PureB Tryz.prog 152 [.pd (.slice (rows ANeed.pd l)), .fn g caps] bs (fun d => d = int (lidx p l 0)) := by
  refine pureB_of_run follows an_zijlh Tryz.func152 rfl ok_zijlh dst_zijlh (by simp [Tryz.ntmps152]) ?_
  rw [run_start]
  simp only [ac_zijlh, go_sem, contS_seq, simprocAttr, rows_len]
  refine loopS (fun k st => ∃ i : Nat, k = l.length - i ∧ i ≤ l.length ∧ lidx p (l.drop i) i = lidx p l 0 ∧
    st = ⟨[(0, .pd (.slice (rows ANeed.pd l))), (1, .fn g caps), (7, int l.length), (8, int i)], bs, [], .no⟩) l.length _ (Weak.refl _ _) ⟨0, rfl, Nat.zero_le _, rfl, rfl⟩ ?_
  rintro k st ⟨i, rfl, hi, hr, rfl⟩
  by_cases hlt : i < l.length
  · obtain ⟨x, hx⟩ := at_lt hlt
    have hlt' : ((i : Int) < (l.length : Int)) = True := eq_true (by omega)
    have hw := i64_succ (show i < 1000000000 by omega)
    rw [drop_at hx, lidx] at hr
    simp only [go_sem, contS_seq, simprocAttr, hlt', rows_get hx]
    refine (hp x (List.mem_of_getElem? hx)).callW he _ (idr bs) hc.ok (hc.args (by rfl)) hc.see ?_
    rintro d rfl
    simp only [go_sem, contS_seq, simprocAttr]
    refine Gif.mk (fun h => ?_) (fun h => ?_)
    · rw [if_pos h] at hr
      simp only [retK, fullK, iterK, resD, resA, AOp.ex, St.ev, Option.map_some, Option.bind_some, St.get, lk, reduceIte, Nat.reduceEqDiff, Option.getD_some, oneD, List.getElem?_cons_zero, List.getElem?_cons_succ, List.drop_zero, List.drop_succ_cons, List.take_succ_cons, List.take_zero, List.length_cons, List.length_nil, Nat.zero_add, Nat.reduceAdd, Nat.le_refl, Nat.reduceLeDiff, D.pub, D.pubs, Tryz.results152]
      exact ⟨_, rfl, rfl, congrArg int hr⟩
    · rw [if_neg (by simp [h])] at hr
      simp only [go_sem, contS_seq, simprocAttr, hw]
      refine ⟨l.length - (i + 1), _, ?_, ?_, i + 1, rfl, ?_, hr, rfl⟩
      · omega
      · exact Weak.less (by simp [lessL, lk]) (lessL_refl hc.nd) (by simp [lessL, lk]) rfl
      · omega
  · have hlt' : ((i : Int) < (l.length : Int)) = False := eq_false (by omega)
    rw [List.drop_eq_nil_of_le (by omega), lidx] at hr
    simp only [go_sem, contS_seq, simprocAttr, rows_len, hlt']
    simp only [retK, fullK, iterK, resD, resA, AOp.ex, St.ev, Option.map_some, Option.bind_some, St.get, lk, reduceIte, Nat.reduceEqDiff, Option.getD_some, oneD, List.getElem?_cons_zero, List.getElem?_cons_succ, List.drop_zero, List.drop_succ_cons, List.take_succ_cons, List.take_zero, List.length_cons, List.length_nil, Nat.zero_add, Nat.reduceAdd, Nat.le_refl, Nat.reduceLeDiff, D.pub, D.pubs, Tryz.results152]
    exact ⟨_, rfl, rfl, congrArg int hr⟩

theorem IndexFunc_Parent (p : AParent → Bool) (g : FuncId) (he : Enters Tryz.prog g) (caps : List (Nat × Nat)) (bs : List (Nat × List D)) (hc : Cl bs caps) (l : List AParent) (hl : l.length ≤ 1000000)
    (hp : ∀ x ∈ l, PureB Tryz.prog g (AParent.d x :: capD caps) bs (fun d => d = bln (p x))) :
    PureB Tryz.prog 124 [.pd (.slice (rows AParent.pd l)), .fn g caps] bs (fun d => d = int (lidx p l 0)) := by
  refine pureB_of_run follows an_zwjxg Tryz.func124 rfl ok_zwjxg dst_zwjxg (by simp [Tryz.ntmps124]) ?_
  rw [run_start]
  simp only [ac_zwjxg, go_sem, contS_seq, simprocAttr, rows_len]
  refine loopS (fun k st => ∃ i : Nat, k = l.length - i ∧ i ≤ l.length ∧ lidx p (l.drop i) i = lidx p l 0 ∧
    st = ⟨[(0, .pd (.slice (rows AParent.pd l))), (1, .fn g caps), (7, int l.length), (8, int i)], bs, [], .no⟩) l.length _ (Weak.refl _ _) ⟨0, rfl, Nat.zero_le _, rfl, rfl⟩ ?_
  rintro k st ⟨i, rfl, hi, hr, rfl⟩
  by_cases hlt : i < l.length
  · obtain ⟨x, hx⟩ := at_lt hlt
    have hlt' : ((i : Int) < (l.length : Int)) = True := eq_true (by omega)
    have hw := i64_succ (show i < 1000000000 by omega)
    rw [drop_at hx, lidx] at hr
    simp only [go_sem, contS_seq, simprocAttr, hlt', rows_get hx]
    refine (hp x (List.mem_of_getElem? hx)).callW he _ (idr bs) hc.ok (hc.args (by rfl)) hc.see ?_
    rintro d rfl
    simp only [go_sem, contS_seq, simprocAttr]
    refine Gif.mk (fun h => ?_) (fun h => ?_)
    · rw [if_pos h] at hr
      simp only [retK, fullK, iterK, resD, resA, AOp.ex, St.ev, Option.map_some, Option.bind_some, St.get, lk, reduceIte, Nat.reduceEqDiff, Option.getD_some, oneD, List.getElem?_cons_zero, List.getElem?_cons_succ, List.drop_zero, List.drop_succ_cons, List.take_succ_cons, List.take_zero, List.length_cons, List.length_nil, Nat.zero_add, Nat.reduceAdd, Nat.le_refl, Nat.reduceLeDiff, D.pub, D.pubs, Tryz.results124]
      exact ⟨_, rfl, rfl, congrArg int hr⟩
    · rw [if_neg (by simp [h])] at hr
      simp only [go_sem, contS_seq, simprocAttr, hw]
      refine ⟨l.length - (i + 1), _, ?_, ?_, i + 1, rfl, ?_, hr, rfl⟩
      · omega
      · exact Weak.less (by simp [lessL, lk]) (lessL_refl hc.nd) (by simp [lessL, lk]) rfl
      · omega
  · have hlt' : ((i : Int) < (l.length : Int)) = False := eq_false (by omega)
    rw [List.drop_eq_nil_of_le (by omega), lidx] at hr
    simp only [go_sem, contS_seq, simprocAttr, rows_len, hlt']
    simp only [retK, fullK, iterK, resD, resA, AOp.ex, St.ev, Option.map_some, Option.bind_some, St.get, lk, reduceIte, Nat.reduceEqDiff, Option.getD_some, oneD, List.getElem?_cons_zero, List.getElem?_cons_succ, List.drop_zero, List.drop_succ_cons, List.take_succ_cons, List.take_zero, List.length_cons, List.length_nil, Nat.zero_add, Nat.reduceAdd, Nat.le_refl, Nat.reduceLeDiff, D.pub, D.pubs, Tryz.results124]
    exact ⟨_, rfl, rfl, congrArg int hr⟩

theorem IndexFunc_string (p : ByteArray → Bool) (g : FuncId) (he : Enters Tryz.prog g) (caps : List (Nat × Nat)) (bs : List (Nat × List D)) (hc : Cl bs caps) (l : List ByteArray) (hl : l.length ≤ 1000000)
    (hp : ∀ x ∈ l, PureB Tryz.prog g (str x :: capD caps) bs (fun d => d = bln (p x))) :
    PureB Tryz.prog 125 [.pd (.slice (rows cStr l)), .fn g caps] bs (fun d => d = int (lidx p l 0)) := by
  refine pureB_of_run follows an_zski5 Tryz.func125 rfl ok_zski5 dst_zski5 (by simp [Tryz.ntmps125]) ?_
  rw [run_start]
  simp only [ac_zski5, go_sem, contS_seq, simprocAttr, rows_len]
  refine loopS (fun k st => ∃ i : Nat, k = l.length - i ∧ i ≤ l.length ∧ lidx p (l.drop i) i = lidx p l 0 ∧
    st = ⟨[(0, .pd (.slice (rows cStr l))), (1, .fn g caps), (7, int l.length), (8, int i)], bs, [], .no⟩) l.length _ (Weak.refl _ _) ⟨0, rfl, Nat.zero_le _, rfl, rfl⟩ ?_
  rintro k st ⟨i, rfl, hi, hr, rfl⟩
  by_cases hlt : i < l.length
  · obtain ⟨x, hx⟩ := at_lt hlt
    have hlt' : ((i : Int) < (l.length : Int)) = True := eq_true (by omega)
    have hw := i64_succ (show i < 1000000000 by omega)
    rw [drop_at hx, lidx] at hr
    simp only [go_sem, contS_seq, simprocAttr, hlt', rows_get hx]
    refine (hp x (List.mem_of_getElem? hx)).callW he _ (idr bs) hc.ok (hc.args (by rfl)) hc.see ?_
    rintro d rfl
    simp only [go_sem, contS_seq, simprocAttr]
    refine Gif.mk (fun h => ?_) (fun h => ?_)
    · rw [if_pos h] at hr
      simp only [retK, fullK, iterK, resD, resA, AOp.ex, St.ev, Option.map_some, Option.bind_some, St.get, lk, reduceIte, Nat.reduceEqDiff, Option.getD_some, oneD, List.getElem?_cons_zero, List.getElem?_cons_succ, List.drop_zero, List.drop_succ_cons, List.take_succ_cons, List.take_zero, List.length_cons, List.length_nil, Nat.zero_add, Nat.reduceAdd, Nat.le_refl, Nat.reduceLeDiff, D.pub, D.pubs, Tryz.results125]
      exact ⟨_, rfl, rfl, congrArg int hr⟩
    · rw [if_neg (by simp [h])] at hr
      simp only [go_sem, contS_seq, simprocAttr, hw]
      refine ⟨l.length - (i + 1), _, ?_, ?_, i + 1, rfl, ?_, hr, rfl⟩
      · omega
      · exact Weak.less (by simp [lessL, lk]) (lessL_refl hc.nd) (by simp [lessL, lk]) rfl
      · omega
  · have hlt' : ((i : Int) < (l.length : Int)) = False := eq_false (by omega)
    rw [List.drop_eq_nil_of_le (by omega), lidx] at hr
    simp only [go_sem, contS_seq, simprocAttr, rows_len, hlt']
    simp only [retK, fullK, iterK, resD, resA, AOp.ex, St.ev, Option.map_some, Option.bind_some, St.get, lk, reduceIte, Nat.reduceEqDiff, Option.getD_some, oneD, List.getElem?_cons_zero, List.getElem?_cons_succ, List.drop_zero, List.drop_succ_cons, List.take_succ_cons, List.take_zero, List.length_cons, List.length_nil, Nat.zero_add, Nat.reduceAdd, Nat.le_refl, Nat.reduceLeDiff, D.pub, D.pubs, Tryz.results125]
    exact ⟨_, rfl, rfl, congrArg int hr⟩


theorem IndexFunc_Rule (p : ARule → Bool) (g : FuncId) (he : Enters Tryz.prog g) (caps : List (Nat × Nat)) (bs : List (Nat × List D)) (hc : Cl bs caps) (l : List ARule) (hl : l.length ≤ 1000000)
    (hp : ∀ x ∈ l, PureB Tryz.prog g (ARule.d x :: capD caps) bs (fun d => d = bln (p x))) :
    PureB Tryz.prog 127 [.pd (.slice (rows ARule.pd l)), .fn g caps] bs (fun d => d = int (lidx p l 0)) := by
  refine pureB_of_run follows an_zwh23 Tryz.func127 rfl ok_zwh23 dst_zwh23 (by simp [Tryz.ntmps127]) ?_
  rw [run_start]
  simp only [ac_zwh23, go_sem, contS_seq, simprocAttr, rows_len]
  refine loopS (fun k st => ∃ i : Nat, k = l.length - i ∧ i ≤ l.length ∧ lidx p (l.drop i) i = lidx p l 0 ∧
    st = ⟨[(0, .pd (.slice (rows ARule.pd l))), (1, .fn g caps), (7, int l.length), (8, int i)], bs, [], .no⟩) l.length _ (Weak.refl _ _) ⟨0, rfl, Nat.zero_le _, rfl, rfl⟩ ?_
  rintro k st ⟨i, rfl, hi, hr, rfl⟩
  by_cases hlt : i < l.length
  · obtain ⟨x, hx⟩ := at_lt hlt
    have hlt' : ((i : Int) < (l.length : Int)) = True := eq_true (by omega)
    have hw := i64_succ (show i < 1000000000 by omega)
    rw [drop_at hx, lidx] at hr
    simp only [go_sem, contS_seq, simprocAttr, hlt', rows_get hx]
    refine (hp x (List.mem_of_getElem? hx)).callW he _ (idr bs) hc.ok (hc.args (by rfl)) hc.see ?_
    rintro d rfl
    simp only [go_sem, contS_seq, simprocAttr]
    refine Gif.mk (fun h => ?_) (fun h => ?_)
    · rw [if_pos h] at hr
      simp only [retK, fullK, iterK, resD, resA, AOp.ex, St.ev, Option.map_some, Option.bind_some, St.get, lk, reduceIte, Nat.reduceEqDiff, Option.getD_some, oneD, List.getElem?_cons_zero, List.getElem?_cons_succ, List.drop_zero, List.drop_succ_cons, List.take_succ_cons, List.take_zero, List.length_cons, List.length_nil, Nat.zero_add, Nat.reduceAdd, Nat.le_refl, Nat.reduceLeDiff, D.pub, D.pubs, Tryz.results127]
      exact ⟨_, rfl, rfl, congrArg int hr⟩
    · rw [if_neg (by simp [h])] at hr
      simp only [go_sem, contS_seq, simprocAttr, hw]
      refine ⟨l.length - (i + 1), _, ?_, ?_, i + 1, rfl, ?_, hr, rfl⟩
      · omega
      · exact Weak.less (by simp [lessL, lk]) (lessL_refl hc.nd) (by simp [lessL, lk]) rfl
      · omega
  · have hlt' : ((i : Int) < (l.length : Int)) = False := eq_false (by omega)
    rw [List.drop_eq_nil_of_le (by omega), lidx] at hr
    simp only [go_sem, contS_seq, simprocAttr, rows_len, hlt']
    simp only [retK, fullK, iterK, resD, resA, AOp.ex, St.ev, Option.map_some, Option.bind_some, St.get, lk, reduceIte, Nat.reduceEqDiff, Option.getD_some, oneD, List.getElem?_cons_zero, List.getElem?_cons_succ, List.drop_zero, List.drop_succ_cons, List.take_succ_cons, List.take_zero, List.length_cons, List.length_nil, Nat.zero_add, Nat.reduceAdd, Nat.le_refl, Nat.reduceLeDiff, D.pub, D.pubs, Tryz.results127]
    exact ⟨_, rfl, rfl, congrArg int hr⟩

theorem IndexFunc_Match (p : AMatch → Bool) (g : FuncId) (he : Enters Tryz.prog g) (caps : List (Nat × Nat)) (bs : List (Nat × List D)) (hc : Cl bs caps) (l : List AMatch) (hl : l.length ≤ 1000000)
    (hp : ∀ x ∈ l, PureB Tryz.prog g (AMatch.d x :: capD caps) bs (fun d => d = bln (p x))) :
    PureB Tryz.prog 155 [.pd (.slice (rows AMatch.pd l)), .fn g caps] bs (fun d => d = int (lidx p l 0)) := by
  refine pureB_of_run follows an_zsjmp Tryz.func155 rfl ok_zsjmp dst_zsjmp (by simp [Tryz.ntmps155]) ?_
  rw [run_start]
  simp only [ac_zsjmp, go_sem, contS_seq, simprocAttr, rows_len]
  refine loopS (fun k st => ∃ i : Nat, k = l.length - i ∧ i ≤ l.length ∧ lidx p (l.drop i) i = lidx p l 0 ∧
    st = ⟨[(0, .pd (.slice (rows AMatch.pd l))), (1, .fn g caps), (7, int l.length), (8, int i)], bs, [], .no⟩) l.length _ (Weak.refl _ _) ⟨0, rfl, Nat.zero_le _, rfl, rfl⟩ ?_
  rintro k st ⟨i, rfl, hi, hr, rfl⟩
  by_cases hlt : i < l.length
  · obtain ⟨x, hx⟩ := at_lt hlt
    have hlt' : ((i : Int) < (l.length : Int)) = True := eq_true (by omega)
    have hw := i64_succ (show i < 1000000000 by omega)
    rw [drop_at hx, lidx] at hr
    simp only [go_sem, contS_seq, simprocAttr, hlt', rows_get hx]
    refine (hp x (List.mem_of_getElem? hx)).callW he _ (idr bs) hc.ok (hc.args (by rfl)) hc.see ?_
    rintro d rfl
    simp only [go_sem, contS_seq, simprocAttr]
    refine Gif.mk (fun h => ?_) (fun h => ?_)
    · rw [if_pos h] at hr
      simp only [retK, fullK, iterK, resD, resA, AOp.ex, St.ev, Option.map_some, Option.bind_some, St.get, lk, reduceIte, Nat.reduceEqDiff, Option.getD_some, oneD, List.getElem?_cons_zero, List.getElem?_cons_succ, List.drop_zero, List.drop_succ_cons, List.take_succ_cons, List.take_zero, List.length_cons, List.length_nil, Nat.zero_add, Nat.reduceAdd, Nat.le_refl, Nat.reduceLeDiff, D.pub, D.pubs, Tryz.results155]
      exact ⟨_, rfl, rfl, congrArg int hr⟩
    · rw [if_neg (by simp [h])] at hr
      simp only [go_sem, contS_seq, simprocAttr, hw]
      refine ⟨l.length - (i + 1), _, ?_, ?_, i + 1, rfl, ?_, hr, rfl⟩
      · omega
      · exact Weak.less (by simp [lessL, lk]) (lessL_refl hc.nd) (by simp [lessL, lk]) rfl
      · omega
  · have hlt' : ((i : Int) < (l.length : Int)) = False := eq_false (by omega)
    rw [List.drop_eq_nil_of_le (by omega), lidx] at hr
    simp only [go_sem, contS_seq, simprocAttr, rows_len, hlt']
    simp only [retK, fullK, iterK, resD, resA, AOp.ex, St.ev, Option.map_some, Option.bind_some, St.get, lk, reduceIte, Nat.reduceEqDiff, Option.getD_some, oneD, List.getElem?_cons_zero, List.getElem?_cons_succ, List.drop_zero, List.drop_succ_cons, List.take_succ_cons, List.take_zero, List.length_cons, List.length_nil, Nat.zero_add, Nat.reduceAdd, Nat.le_refl, Nat.reduceLeDiff, D.pub, D.pubs, Tryz.results155]
    exact ⟨_, rfl, rfl, congrArg int hr⟩

theorem IndexFunc_Pair (p : APair → Bool) (g : FuncId) (he : Enters Tryz.prog g) (caps : List (Nat × Nat)) (bs : List (Nat × List D)) (hc : Cl bs caps) (l : List APair) (hl : l.length ≤ 1000000)
    (hp : ∀ x ∈ l, PureB Tryz.prog g (APair.d x :: capD caps) bs (fun d => d = bln (p x))) :
    PureB Tryz.prog 161 [.pd (.slice (rows APair.pd l)), .fn g caps] bs (fun d => d = int (lidx p l 0)) := by
  refine pureB_of_run follows an_zdecl Tryz.func161 rfl ok_zdecl dst_zdecl (by simp [Tryz.ntmps161]) ?_
  rw [run_start]
  simp only [ac_zdecl, go_sem, contS_seq, simprocAttr, rows_len]
  refine loopS (fun k st => ∃ i : Nat, k = l.length - i ∧ i ≤ l.length ∧ lidx p (l.drop i) i = lidx p l 0 ∧
    st = ⟨[(0, .pd (.slice (rows APair.pd l))), (1, .fn g caps), (7, int l.length), (8, int i)], bs, [], .no⟩) l.length _ (Weak.refl _ _) ⟨0, rfl, Nat.zero_le _, rfl, rfl⟩ ?_
  rintro k st ⟨i, rfl, hi, hr, rfl⟩
  by_cases hlt : i < l.length
  · obtain ⟨x, hx⟩ := at_lt hlt
    have hlt' : ((i : Int) < (l.length : Int)) = True := eq_true (by omega)
    have hw := i64_succ (show i < 1000000000 by omega)
    rw [drop_at hx, lidx] at hr
    simp only [go_sem, contS_seq, simprocAttr, hlt', rows_get hx]
    refine (hp x (List.mem_of_getElem? hx)).callW he _ (idr bs) hc.ok (hc.args (by rfl)) hc.see ?_
    rintro d rfl
    simp only [go_sem, contS_seq, simprocAttr]
    refine Gif.mk (fun h => ?_) (fun h => ?_)
    · rw [if_pos h] at hr
      simp only [retK, fullK, iterK, resD, resA, AOp.ex, St.ev, Option.map_some, Option.bind_some, St.get, lk, reduceIte, Nat.reduceEqDiff, Option.getD_some, oneD, List.getElem?_cons_zero, List.getElem?_cons_succ, List.drop_zero, List.drop_succ_cons, List.take_succ_cons, List.take_zero, List.length_cons, List.length_nil, Nat.zero_add, Nat.reduceAdd, Nat.le_refl, Nat.reduceLeDiff, D.pub, D.pubs, Tryz.results161]
      exact ⟨_, rfl, rfl, congrArg int hr⟩
    · rw [if_neg (by simp [h])] at hr
      simp only [go_sem, contS_seq, simprocAttr, hw]
      refine ⟨l.length - (i + 1), _, ?_, ?_, i + 1, rfl, ?_, hr, rfl⟩
      · omega
      · exact Weak.less (by simp [lessL, lk]) (lessL_refl hc.nd) (by simp [lessL, lk]) rfl
      · omega
  · have hlt' : ((i : Int) < (l.length : Int)) = False := eq_false (by omega)
    rw [List.drop_eq_nil_of_le (by omega), lidx] at hr
    simp only [go_sem, contS_seq, simprocAttr, rows_len, hlt']
    simp only [retK, fullK, iterK, resD, resA, AOp.ex, St.ev, Option.map_some, Option.bind_some, St.get, lk, reduceIte, Nat.reduceEqDiff, Option.getD_some, oneD, List.getElem?_cons_zero, List.getElem?_cons_succ, List.drop_zero, List.drop_succ_cons, List.take_succ_cons, List.take_zero, List.length_cons, List.length_nil, Nat.zero_add, Nat.reduceAdd, Nat.le_refl, Nat.reduceLeDiff, D.pub, D.pubs, Tryz.results161]
    exact ⟨_, rfl, rfl, congrArg int hr⟩

theorem IndexFunc_Filter (p : AFilter → Bool) (g : FuncId) (he : Enters Tryz.prog g) (caps : List (Nat × Nat)) (bs : List (Nat × List D)) (hc : Cl bs caps) (l : List AFilter) (hl : l.length ≤ 1000000)
    (hp : ∀ x ∈ l, PureB Tryz.prog g (AFilter.d x :: capD caps) bs (fun d => d = bln (p x))) :
    PureB Tryz.prog 165 [.pd (.slice (rows AFilter.pd l)), .fn g caps] bs (fun d => d = int (lidx p l 0)) := by
  refine pureB_of_run follows an_zwgkv Tryz.func165 rfl ok_zwgkv dst_zwgkv (by simp [Tryz.ntmps165]) ?_
  rw [run_start]
  simp only [ac_zwgkv, go_sem, contS_seq, simprocAttr, rows_len]
  refine loopS (fun k st => ∃ i : Nat, k = l.length - i ∧ i ≤ l.length ∧ lidx p (l.drop i) i = lidx p l 0 ∧
    st = ⟨[(0, .pd (.slice (rows AFilter.pd l))), (1, .fn g caps), (7, int l.length), (8, int i)], bs, [], .no⟩) l.length _ (Weak.refl _ _) ⟨0, rfl, Nat.zero_le _, rfl, rfl⟩ ?_
  rintro k st ⟨i, rfl, hi, hr, rfl⟩
  by_cases hlt : i < l.length
  · obtain ⟨x, hx⟩ := at_lt hlt
    have hlt' : ((i : Int) < (l.length : Int)) = True := eq_true (by omega)
    have hw := i64_succ (show i < 1000000000 by omega)
    rw [drop_at hx, lidx] at hr
    simp only [go_sem, contS_seq, simprocAttr, hlt', rows_get hx]
    refine (hp x (List.mem_of_getElem? hx)).callW he _ (idr bs) hc.ok (hc.args (by rfl)) hc.see ?_
    rintro d rfl
    simp only [go_sem, contS_seq, simprocAttr]
    refine Gif.mk (fun h => ?_) (fun h => ?_)
    · rw [if_pos h] at hr
      simp only [retK, fullK, iterK, resD, resA, AOp.ex, St.ev, Option.map_some, Option.bind_some, St.get, lk, reduceIte, Nat.reduceEqDiff, Option.getD_some, oneD, List.getElem?_cons_zero, List.getElem?_cons_succ, List.drop_zero, List.drop_succ_cons, List.take_succ_cons, List.take_zero, List.length_cons, List.length_nil, Nat.zero_add, Nat.reduceAdd, Nat.le_refl, Nat.reduceLeDiff, D.pub, D.pubs, Tryz.results165]
      exact ⟨_, rfl, rfl, congrArg int hr⟩
    · rw [if_neg (by simp [h])] at hr
      simp only [go_sem, contS_seq, simprocAttr, hw]
      refine ⟨l.length - (i + 1), _, ?_, ?_, i + 1, rfl, ?_, hr, rfl⟩
      · omega
      · exact Weak.less (by simp [lessL, lk]) (lessL_refl hc.nd) (by simp [lessL, lk]) rfl
      · omega
  · have hlt' : ((i : Int) < (l.length : Int)) = False := eq_false (by omega)
    rw [List.drop_eq_nil_of_le (by omega), lidx] at hr
    simp only [go_sem, contS_seq, simprocAttr, rows_len, hlt']
    simp only [retK, fullK, iterK, resD, resA, AOp.ex, St.ev, Option.map_some, Option.bind_some, St.get, lk, reduceIte, Nat.reduceEqDiff, Option.getD_some, oneD, List.getElem?_cons_zero, List.getElem?_cons_succ, List.drop_zero, List.drop_succ_cons, List.take_succ_cons, List.take_zero, List.length_cons, List.length_nil, Nat.zero_add, Nat.reduceAdd, Nat.le_refl, Nat.reduceLeDiff, D.pub, D.pubs, Tryz.results165]
    exact ⟨_, rfl, rfl, congrArg int hr⟩

theorem IndexFunc_Backend (p : ABackend → Bool) (g : FuncId) (he : Enters Tryz.prog g) (caps : List (Nat × Nat)) (bs : List (Nat × List D)) (hc : Cl bs caps) (l : List ABackend) (hl : l.length ≤ 1000000)
    (hp : ∀ x ∈ l, PureB Tryz.prog g (ABackend.d x :: capD caps) bs (fun d => d = bln (p x))) :
    PureB Tryz.prog 166 [.pd (.slice (rows ABackend.pd l)), .fn g caps] bs (fun d => d = int (lidx p l 0)) := by
  refine pureB_of_run follows an_zbcsd Tryz.func166 rfl ok_zbcsd dst_zbcsd (by simp [Tryz.ntmps166]) ?_
  rw [run_start]
  simp only [ac_zbcsd, go_sem, contS_seq, simprocAttr, rows_len]
  refine loopS (fun k st => ∃ i : Nat, k = l.length - i ∧ i ≤ l.length ∧ lidx p (l.drop i) i = lidx p l 0 ∧
    st = ⟨[(0, .pd (.slice (rows ABackend.pd l))), (1, .fn g caps), (7, int l.length), (8, int i)], bs, [], .no⟩) l.length _ (Weak.refl _ _) ⟨0, rfl, Nat.zero_le _, rfl, rfl⟩ ?_
  rintro k st ⟨i, rfl, hi, hr, rfl⟩
  by_cases hlt : i < l.length
  · obtain ⟨x, hx⟩ := at_lt hlt
    have hlt' : ((i : Int) < (l.length : Int)) = True := eq_true (by omega)
    have hw := i64_succ (show i < 1000000000 by omega)
    rw [drop_at hx, lidx] at hr
    simp only [go_sem, contS_seq, simprocAttr, hlt', rows_get hx]
    refine (hp x (List.mem_of_getElem? hx)).callW he _ (idr bs) hc.ok (hc.args (by rfl)) hc.see ?_
    rintro d rfl
    simp only [go_sem, contS_seq, simprocAttr]
    refine Gif.mk (fun h => ?_) (fun h => ?_)
    · rw [if_pos h] at hr
      simp only [retK, fullK, iterK, resD, resA, AOp.ex, St.ev, Option.map_some, Option.bind_some, St.get, lk, reduceIte, Nat.reduceEqDiff, Option.getD_some, oneD, List.getElem?_cons_zero, List.getElem?_cons_succ, List.drop_zero, List.drop_succ_cons, List.take_succ_cons, List.take_zero, List.length_cons, List.length_nil, Nat.zero_add, Nat.reduceAdd, Nat.le_refl, Nat.reduceLeDiff, D.pub, D.pubs, Tryz.results166]
      exact ⟨_, rfl, rfl, congrArg int hr⟩
    · rw [if_neg (by simp [h])] at hr
      simp only [go_sem, contS_seq, simprocAttr, hw]
      refine ⟨l.length - (i + 1), _, ?_, ?_, i + 1, rfl, ?_, hr, rfl⟩
      · omega
      · exact Weak.less (by simp [lessL, lk]) (lessL_refl hc.nd) (by simp [lessL, lk]) rfl
      · omega
  · have hlt' : ((i : Int) < (l.length : Int)) = False := eq_false (by omega)
    rw [List.drop_eq_nil_of_le (by omega), lidx] at hr
    simp only [go_sem, contS_seq, simprocAttr, rows_len, hlt']
    simp only [retK, fullK, iterK, resD, resA, AOp.ex, St.ev, Option.map_some, Option.bind_some, St.get, lk, reduceIte, Nat.reduceEqDiff, Option.getD_some, oneD, List.getElem?_cons_zero, List.getElem?_cons_succ, List.drop_zero, List.drop_succ_cons, List.take_succ_cons, List.take_zero, List.length_cons, List.length_nil, Nat.zero_add, Nat.reduceAdd, Nat.le_refl, Nat.reduceLeDiff, D.pub, D.pubs, Tryz.results166]
    exact ⟨_, rfl, rfl, congrArg int hr⟩


theorem ContainsFunc_Side (p : ASide → Bool) (g : FuncId) (he : Enters Tryz.prog g) (caps : List (Nat × Nat)) (bs : List (Nat × List D)) (hc : Cl bs caps) (l : List ASide) (hl : l.length ≤ 1000000)
    (hp : ∀ x ∈ l, PureB Tryz.prog g (ASide.d x :: capD caps) bs (fun d => d = bln (p x))) :
    PureB Tryz.prog 45 [.pd (.slice (rows ASide.pd l)), .fn g caps] bs (fun d => d = bln (l.any p)) := by
  refine pureB_of_run follows an_zkgk0 Tryz.func45 rfl ok_zkgk0 dst_zkgk0 (by simp [Tryz.ntmps45]) ?_
  rw [run_start]
  simp only [ac_zkgk0, go_sem, contS_seq, simprocAttr, rows_len]
  refine (IndexFunc_Side p g he caps bs hc l hl hp).callW (enters_of Tryz.func82 rfl rfl) _ (idr bs) hc.ok hc.two hc.see ?_
  rintro d rfl
  simp only [go_sem, contS_seq, simprocAttr]
  simp only [retK, fullK, iterK, resD, resA, AOp.ex, St.ev, Option.map_some, Option.bind_some, St.get, lk, reduceIte, Nat.reduceEqDiff, Option.getD_some, oneD, List.getElem?_cons_zero, List.getElem?_cons_succ, List.drop_zero, List.drop_succ_cons, List.take_succ_cons, List.take_zero, List.length_cons, List.length_nil, Nat.zero_add, Nat.reduceAdd, Nat.le_refl, Nat.reduceLeDiff, D.pub, D.pubs, Tryz.results45]
  exact ⟨_, rfl, rfl, congrArg bln (lidx_any p l)⟩

theorem ContainsFunc_int (p : Int → Bool) (g : FuncId) (he : Enters Tryz.prog g) (caps : List (Nat × Nat)) (bs : List (Nat × List D)) (hc : Cl bs caps) (l : List Int) (hl : l.length ≤ 1000000)
    (hp : ∀ x ∈ l, PureB Tryz.prog g (int x :: capD caps) bs (fun d => d = bln (p x))) :
    PureB Tryz.prog 84 [.pd (.slice (rows cInt l)), .fn g caps] bs (fun d => d = bln (l.any p)) := by
  refine pureB_of_run follows an_z2spj Tryz.func84 rfl ok_z2spj dst_z2spj (by simp [Tryz.ntmps84]) ?_
  rw [run_start]
  simp only [ac_z2spj, go_sem, contS_seq, simprocAttr, rows_len]
  refine (IndexFunc_int p g he caps bs hc l hl hp).callW (enters_of Tryz.func117 rfl rfl) _ (idr bs) hc.ok hc.two hc.see ?_
  rintro d rfl
  simp only [go_sem, contS_seq, simprocAttr]
  simp only [retK, fullK, iterK, resD, resA, AOp.ex, St.ev, Option.map_some, Option.bind_some, St.get, lk, reduceIte, Nat.reduceEqDiff, Option.getD_some, oneD, List.getElem?_cons_zero, List.getElem?_cons_succ, List.drop_zero, List.drop_succ_cons, List.take_succ_cons, List.take_zero, List.length_cons, List.length_nil, Nat.zero_add, Nat.reduceAdd, Nat.le_refl, Nat.reduceLeDiff, D.pub, D.pubs, Tryz.results84]
  exact ⟨_, rfl, rfl, congrArg bln (lidx_any p l)⟩

theorem ContainsFunc_Listener (p : AListener → Bool) (g : FuncId) (he : Enters Tryz.prog g) (caps : List (Nat × Nat)) (bs : List (Nat × List D)) (hc : Cl bs caps) (l : List AListener) (hl : l.length ≤ 1000000)
    (hp : ∀ x ∈ l, PureB Tryz.prog g (AListener.d x :: capD caps) bs (fun d => d = bln (p x))) :
    PureB Tryz.prog 89 [.pd (.slice (rows AListener.pd l)), .fn g caps] bs (fun d => d = bln (l.any p)) := by
  refine pureB_of_run follows an_zosgm Tryz.func89 rfl ok_zosgm dst_zosgm (by simp [Tryz.ntmps89]) ?_
  rw [run_start]
  simp only [ac_zosgm, go_sem, contS_seq, simprocAttr, rows_len]
  refine (IndexFunc_Listener p g he caps bs hc l hl hp).callW (enters_of Tryz.func120 rfl rfl) _ (idr bs) hc.ok hc.two hc.see ?_
  rintro d rfl
  simp only [go_sem, contS_seq, simprocAttr]
  simp only [retK, fullK, iterK, resD, resA, AOp.ex, St.ev, Option.map_some, Option.bind_some, St.get, lk, reduceIte, Nat.reduceEqDiff, Option.getD_some, oneD, List.getElem?_cons_zero, List.getElem?_cons_succ, List.drop_zero, List.drop_succ_cons, List.take_succ_cons, List.take_zero, List.length_cons, List.length_nil, Nat.zero_add, Nat.reduceAdd, Nat.le_refl, Nat.reduceLeDiff, D.pub, D.pubs, Tryz.results89]
  exact ⟨_, rfl, rfl, congrArg bln (lidx_any p l)⟩

theorem ContainsFunc_Need (p : ANeed → Bool) (g : FuncId) (he : Enters Tryz.prog g) (caps : List (Nat × Nat)) (bs : List (Nat × List D)) (hc : Cl bs caps) (l : List ANeed) (hl : l.length ≤ 1000000)
    (hp : ∀ x ∈ l, PureB Tryz.prog g (ANeed.d x :: capD caps) bs (fun d => d = bln (p x))) :
    PureB Tryz.prog 121 [.pd (.slice (rows ANeed.pd l)), .fn g caps] bs (fun d => d = bln (l.any p)) := by
  refine pureB_of_run follows an_zy4fu Tryz.func121 rfl ok_zy4fu dst_zy4fu (by simp [Tryz.ntmps121]) ?_
  rw [run_start]
  simp only [ac_zy4fu, go_sem, contS_seq, simprocAttr, rows_len]
  refine (IndexFunc_Need p g he caps bs hc l hl hp).callW (enters_of Tryz.func152 rfl rfl) _ (idr bs) hc.ok hc.two hc.see ?_
  rintro d rfl
  simp only [go_sem, contS_seq, simprocAttr]
  simp only [retK, fullK, iterK, resD, resA, AOp.ex, St.ev, Option.map_some, Option.bind_some, St.get, lk, reduceIte, Nat.reduceEqDiff, Option.getD_some, oneD, List.getElem?_cons_zero, List.getElem?_cons_succ, List.drop_zero, List.drop_succ_cons, List.take_succ_cons, List.take_zero, List.length_cons, List.length_nil, Nat.zero_add, Nat.reduceAdd, Nat.le_refl, Nat.reduceLeDiff, D.pub, D.pubs, Tryz.results121]
  exact ⟨_, rfl, rfl, congrArg bln (lidx_any p l)⟩

theorem ContainsFunc_Parent (p : AParent → Bool) (g : FuncId) (he : Enters Tryz.prog g) (caps : List (Nat × Nat)) (bs : List (Nat × List D)) (hc : Cl bs caps) (l : List AParent) (hl : l.length ≤ 1000000)
    (hp : ∀ x ∈ l, PureB Tryz.prog g (AParent.d x :: capD caps) bs (fun d => d = bln (p x))) :
    PureB Tryz.prog 94 [.pd (.slice (rows AParent.pd l)), .fn g caps] bs (fun d => d = bln (l.any p)) := by
  refine pureB_of_run follows an_zic3s Tryz.func94 rfl ok_zic3s dst_zic3s (by simp [Tryz.ntmps94]) ?_
  rw [run_start]
  simp only [ac_zic3s, go_sem, contS_seq, simprocAttr, rows_len]
  refine (IndexFunc_Parent p g he caps bs hc l hl hp).callW (enters_of Tryz.func124 rfl rfl) _ (idr bs) hc.ok hc.two hc.see ?_
  rintro d rfl
  simp only [go_sem, contS_seq, simprocAttr]
  simp only [retK, fullK, iterK, resD, resA, AOp.ex, St.ev, Option.map_some, Option.bind_some, St.get, lk, reduceIte, Nat.reduceEqDiff, Option.getD_some, oneD, List.getElem?_cons_zero, List.getElem?_cons_succ, List.drop_zero, List.drop_succ_cons, List.take_succ_cons, List.take_zero, List.length_cons, List.length_nil, Nat.zero_add, Nat.reduceAdd, Nat.le_refl, Nat.reduceLeDiff, D.pub, D.pubs, Tryz.results94]
  exact ⟨_, rfl, rfl, congrArg bln (lidx_any p l)⟩

theorem ContainsFunc_string (p : ByteArray → Bool) (g : FuncId) (he : Enters Tryz.prog g) (caps : List (Nat × Nat)) (bs : List (Nat × List D)) (hc : Cl bs caps) (l : List ByteArray) (hl : l.length ≤ 1000000)
    (hp : ∀ x ∈ l, PureB Tryz.prog g (str x :: capD caps) bs (fun d => d = bln (p x))) :
    PureB Tryz.prog 96 [.pd (.slice (rows cStr l)), .fn g caps] bs (fun d => d = bln (l.any p)) := by
  refine pureB_of_run follows an_zyx5 Tryz.func96 rfl ok_zyx5 dst_zyx5 (by simp [Tryz.ntmps96]) ?_
  rw [run_start]
  simp only [ac_zyx5, go_sem, contS_seq, simprocAttr, rows_len]
  refine (IndexFunc_string p g he caps bs hc l hl hp).callW (enters_of Tryz.func125 rfl rfl) _ (idr bs) hc.ok hc.two hc.see ?_
  rintro d rfl
  simp only [go_sem, contS_seq, simprocAttr]
  simp only [retK, fullK, iterK, resD, resA, AOp.ex, St.ev, Option.map_some, Option.bind_some, St.get, lk, reduceIte, Nat.reduceEqDiff, Option.getD_some, oneD, List.getElem?_cons_zero, List.getElem?_cons_succ, List.drop_zero, List.drop_succ_cons, List.take_succ_cons, List.take_zero, List.length_cons, List.length_nil, Nat.zero_add, Nat.reduceAdd, Nat.le_refl, Nat.reduceLeDiff, D.pub, D.pubs, Tryz.results96]
  exact ⟨_, rfl, rfl, congrArg bln (lidx_any p l)⟩

theorem ContainsFunc_Rule (p : ARule → Bool) (g : FuncId) (he : Enters Tryz.prog g) (caps : List (Nat × Nat)) (bs : List (Nat × List D)) (hc : Cl bs caps) (l : List ARule) (hl : l.length ≤ 1000000)
    (hp : ∀ x ∈ l, PureB Tryz.prog g (ARule.d x :: capD caps) bs (fun d => d = bln (p x))) :
    PureB Tryz.prog 101 [.pd (.slice (rows ARule.pd l)), .fn g caps] bs (fun d => d = bln (l.any p)) := by
  refine pureB_of_run follows an_zwd90 Tryz.func101 rfl ok_zwd90 dst_zwd90 (by simp [Tryz.ntmps101]) ?_
  rw [run_start]
  simp only [ac_zwd90, go_sem, contS_seq, simprocAttr, rows_len]
  refine (IndexFunc_Rule p g he caps bs hc l hl hp).callW (enters_of Tryz.func127 rfl rfl) _ (idr bs) hc.ok hc.two hc.see ?_
  rintro d rfl
  simp only [go_sem, contS_seq, simprocAttr]
  simp only [retK, fullK, iterK, resD, resA, AOp.ex, St.ev, Option.map_some, Option.bind_some, St.get, lk, reduceIte, Nat.reduceEqDiff, Option.getD_some, oneD, List.getElem?_cons_zero, List.getElem?_cons_succ, List.drop_zero, List.drop_succ_cons, List.take_succ_cons, List.take_zero, List.length_cons, List.length_nil, Nat.zero_add, Nat.reduceAdd, Nat.le_refl, Nat.reduceLeDiff, D.pub, D.pubs, Tryz.results101]
  exact ⟨_, rfl, rfl, congrArg bln (lidx_any p l)⟩

theorem ContainsFunc_Match (p : AMatch → Bool) (g : FuncId) (he : Enters Tryz.prog g) (caps : List (Nat × Nat)) (bs : List (Nat × List D)) (hc : Cl bs caps) (l : List AMatch) (hl : l.length ≤ 1000000)
    (hp : ∀ x ∈ l, PureB Tryz.prog g (AMatch.d x :: capD caps) bs (fun d => d = bln (p x))) :
    PureB Tryz.prog 128 [.pd (.slice (rows AMatch.pd l)), .fn g caps] bs (fun d => d = bln (l.any p)) := by
  refine pureB_of_run follows an_zmyh8 Tryz.func128 rfl ok_zmyh8 dst_zmyh8 (by simp [Tryz.ntmps128]) ?_
  rw [run_start]
  simp only [ac_zmyh8, go_sem, contS_seq, simprocAttr, rows_len]
  refine (IndexFunc_Match p g he caps bs hc l hl hp).callW (enters_of Tryz.func155 rfl rfl) _ (idr bs) hc.ok hc.two hc.see ?_
  rintro d rfl
  simp only [go_sem, contS_seq, simprocAttr]
  simp only [retK, fullK, iterK, resD, resA, AOp.ex, St.ev, Option.map_some, Option.bind_some, St.get, lk, reduceIte, Nat.reduceEqDiff, Option.getD_some, oneD, List.getElem?_cons_zero, List.getElem?_cons_succ, List.drop_zero, List.drop_succ_cons, List.take_succ_cons, List.take_zero, List.length_cons, List.length_nil, Nat.zero_add, Nat.reduceAdd, Nat.le_refl, Nat.reduceLeDiff, D.pub, D.pubs, Tryz.results128]
  exact ⟨_, rfl, rfl, congrArg bln (lidx_any p l)⟩

theorem ContainsFunc_Pair (p : APair → Bool) (g : FuncId) (he : Enters Tryz.prog g) (caps : List (Nat × Nat)) (bs : List (Nat × List D)) (hc : Cl bs caps) (l : List APair) (hl : l.length ≤ 1000000)
    (hp : ∀ x ∈ l, PureB Tryz.prog g (APair.d x :: capD caps) bs (fun d => d = bln (p x))) :
    PureB Tryz.prog 135 [.pd (.slice (rows APair.pd l)), .fn g caps] bs (fun d => d = bln (l.any p)) := by
  refine pureB_of_run follows an_zr7hm Tryz.func135 rfl ok_zr7hm dst_zr7hm (by simp [Tryz.ntmps135]) ?_
  rw [run_start]
  simp only [ac_zr7hm, go_sem, contS_seq, simprocAttr, rows_len]
  refine (IndexFunc_Pair p g he caps bs hc l hl hp).callW (enters_of Tryz.func161 rfl rfl) _ (idr bs) hc.ok hc.two hc.see ?_
  rintro d rfl
  simp only [go_sem, contS_seq, simprocAttr]
  simp only [retK, fullK, iterK, resD, resA, AOp.ex, St.ev, Option.map_some, Option.bind_some, St.get, lk, reduceIte, Nat.reduceEqDiff, Option.getD_some, oneD, List.getElem?_cons_zero, List.getElem?_cons_succ, List.drop_zero, List.drop_succ_cons, List.take_succ_cons, List.take_zero, List.length_cons, List.length_nil, Nat.zero_add, Nat.reduceAdd, Nat.le_refl, Nat.reduceLeDiff, D.pub, D.pubs, Tryz.results135]
  exact ⟨_, rfl, rfl, congrArg bln (lidx_any p l)⟩

theorem ContainsFunc_Filter (p : AFilter → Bool) (g : FuncId) (he : Enters Tryz.prog g) (caps : List (Nat × Nat)) (bs : List (Nat × List D)) (hc : Cl bs caps) (l : List AFilter) (hl : l.length ≤ 1000000)
    (hp : ∀ x ∈ l, PureB Tryz.prog g (AFilter.d x :: capD caps) bs (fun d => d = bln (p x))) :
    PureB Tryz.prog 143 [.pd (.slice (rows AFilter.pd l)), .fn g caps] bs (fun d => d = bln (l.any p)) := by
  refine pureB_of_run follows an_zi3lv Tryz.func143 rfl ok_zi3lv dst_zi3lv (by simp [Tryz.ntmps143]) ?_
  rw [run_start]
  simp only [ac_zi3lv, go_sem, contS_seq, simprocAttr, rows_len]
  refine (IndexFunc_Filter p g he caps bs hc l hl hp).callW (enters_of Tryz.func165 rfl rfl) _ (idr bs) hc.ok hc.two hc.see ?_
  rintro d rfl
  simp only [go_sem, contS_seq, simprocAttr]
  simp only [retK, fullK, iterK, resD, resA, AOp.ex, St.ev, Option.map_some, Option.bind_some, St.get, lk, reduceIte, Nat.reduceEqDiff, Option.getD_some, oneD, List.getElem?_cons_zero, List.getElem?_cons_succ, List.drop_zero, List.drop_succ_cons, List.take_succ_cons, List.take_zero, List.length_cons, List.length_nil, Nat.zero_add, Nat.reduceAdd, Nat.le_refl, Nat.reduceLeDiff, D.pub, D.pubs, Tryz.results143]
  exact ⟨_, rfl, rfl, congrArg bln (lidx_any p l)⟩

theorem ContainsFunc_Backend (p : ABackend → Bool) (g : FuncId) (he : Enters Tryz.prog g) (caps : List (Nat × Nat)) (bs : List (Nat × List D)) (hc : Cl bs caps) (l : List ABackend) (hl : l.length ≤ 1000000)
    (hp : ∀ x ∈ l, PureB Tryz.prog g (ABackend.d x :: capD caps) bs (fun d => d = bln (p x))) :
    PureB Tryz.prog 144 [.pd (.slice (rows ABackend.pd l)), .fn g caps] bs (fun d => d = bln (l.any p)) := by
  refine pureB_of_run follows an_z7rwg Tryz.func144 rfl ok_z7rwg dst_z7rwg (by simp [Tryz.ntmps144]) ?_
  rw [run_start]
  simp only [ac_z7rwg, go_sem, contS_seq, simprocAttr, rows_len]
  refine (IndexFunc_Backend p g he caps bs hc l hl hp).callW (enters_of Tryz.func166 rfl rfl) _ (idr bs) hc.ok hc.two hc.see ?_
  rintro d rfl
  simp only [go_sem, contS_seq, simprocAttr]
  simp only [retK, fullK, iterK, resD, resA, AOp.ex, St.ev, Option.map_some, Option.bind_some, St.get, lk, reduceIte, Nat.reduceEqDiff, Option.getD_some, oneD, List.getElem?_cons_zero, List.getElem?_cons_succ, List.drop_zero, List.drop_succ_cons, List.take_succ_cons, List.take_zero, List.length_cons, List.length_nil, Nat.zero_add, Nat.reduceAdd, Nat.le_refl, Nat.reduceLeDiff, D.pub, D.pubs, Tryz.results144]
  exact ⟨_, rfl, rfl, congrArg bln (lidx_any p l)⟩

theorem ContainsP_Need (p : ANeed → Bool) (f : FuncId) (he : Enters Tryz.prog f) (l : List ANeed) (hl : l.length ≤ 1000000) (hp : ∀ x ∈ l, Pure Tryz.prog f [ANeed.d x] (fun d => d = bln (p x))) :
    Pure Tryz.prog 121 [.pd (.slice (rows ANeed.pd l)), .fn f []] (fun d => d = bln (l.any p)) :=
  (ContainsFunc_Need p f he [] [] (Cl.of rfl rfl rfl rfl rfl) l hl (fun x hx => (hp x hx).pureB rfl)).pure

theorem ContainsP_string (p : ByteArray → Bool) (f : FuncId) (he : Enters Tryz.prog f) (l : List ByteArray) (hl : l.length ≤ 1000000) (hp : ∀ x ∈ l, Pure Tryz.prog f [str x] (fun d => d = bln (p x))) :
    Pure Tryz.prog 96 [.pd (.slice (rows cStr l)), .fn f []] (fun d => d = bln (l.any p)) :=
  (ContainsFunc_string p f he [] [] (Cl.of rfl rfl rfl rfl rfl) l hl (fun x hx => (hp x hx).pureB rfl)).pure

theorem ContainsP_Pair (p : APair → Bool) (f : FuncId) (he : Enters Tryz.prog f) (l : List APair) (hl : l.length ≤ 1000000) (hp : ∀ x ∈ l, Pure Tryz.prog f [APair.d x] (fun d => d = bln (p x))) :
    Pure Tryz.prog 135 [.pd (.slice (rows APair.pd l)), .fn f []] (fun d => d = bln (l.any p)) :=
  (ContainsFunc_Pair p f he [] [] (Cl.of rfl rfl rfl rfl rfl) l hl (fun x hx => (hp x hx).pureB rfl)).pure

theorem ContainsP_Side (p : ASide → Bool) (f : FuncId) (he : Enters Tryz.prog f) (l : List ASide) (hl : l.length ≤ 1000000) (hp : ∀ x ∈ l, Pure Tryz.prog f [ASide.d x] (fun d => d = bln (p x))) :
    Pure Tryz.prog 45 [.pd (.slice (rows ASide.pd l)), .fn f []] (fun d => d = bln (l.any p)) :=
  (ContainsFunc_Side p f he [] [] (Cl.of rfl rfl rfl rfl rfl) l hl (fun x hx => (hp x hx).pureB rfl)).pure


theorem every_int_1 (p : Int → Bool) (f : FuncId) (he : Enters Tryz.prog f) (x : Int) (hp : Pure Tryz.prog f [int x] (fun d => d = bln (p x))) :
    PureB Tryz.prog 85 [int x, .ptr 1000001 0] [(1000001, [.fn f []])] (fun d => d = bln (!p x)) := by
  refine pureB_of_run follows an_zkvy2 Tryz.func85 rfl ok_zkvy2 dst_zkvy2 (by simp [Tryz.ntmps85]) ?_
  rw [run_start]
  simp only [ac_zkvy2, go_sem, contS_seq, simprocAttr]
  refine hp.callW he _ rfl rfl ?_
  rintro d rfl
  simp only [go_sem, contS_seq, simprocAttr]
  simp only [retK, fullK, iterK, resD, resA, AOp.ex, St.ev, Option.map_some, Option.bind_some, St.get, lk, reduceIte, Nat.reduceEqDiff, Option.getD_some, oneD, List.getElem?_cons_zero, List.getElem?_cons_succ, List.drop_zero, List.drop_succ_cons, List.take_succ_cons, List.take_zero, List.length_cons, List.length_nil, Nat.zero_add, Nat.reduceAdd, Nat.le_refl, Nat.reduceLeDiff, D.pub, D.pubs, Tryz.results85]
  exact ⟨_, rfl, rfl, rfl⟩

theorem every_int (p : Int → Bool) (f : FuncId) (he : Enters Tryz.prog f) (l : List Int) (hl : l.length ≤ 1000000) (n : Int) (hp : ∀ x ∈ l, Pure Tryz.prog f [int x] (fun d => d = bln (p x))) :
    Pure Tryz.prog 47 [.pd (.slice (rows cInt l)), int n, .fn f []] (fun d => d = bln (every p l n)) := by
  refine pure_of_run follows an_z5yno Tryz.func47 rfl ok_z5yno dst_z5yno (by simp [Tryz.ntmps47]) ?_
  rw [run_start]
  simp only [ac_z5yno, go_sem, contS_seq, simprocAttr, rows_len]
  refine GifP.mk (fun h => ?_) (fun h => ?_)
  · refine (ContainsFunc_int (fun x => !p x) 85 (enters_of Tryz.func85 rfl rfl) [(1000001, 0)] [(1000001, [.fn f []])] (Cl.of rfl rfl rfl rfl rfl) l hl (fun x hx => every_int_1 p f he x (hp x hx))).callW (enters_of Tryz.func84 rfl rfl) _ [(5, 1000001)] rfl rfl rfl ?_
    rintro d rfl
    simp only [go_sem, contS_seq, simprocAttr]
    simp only [retK, fullK, iterK, resD, resA, AOp.ex, St.ev, Option.map_some, Option.bind_some, St.get, lk, reduceIte, Nat.reduceEqDiff, Option.getD_some, oneD, List.getElem?_cons_zero, List.getElem?_cons_succ, List.drop_zero, List.drop_succ_cons, List.take_succ_cons, List.take_zero, List.length_cons, List.length_nil, Nat.zero_add, Nat.reduceAdd, Nat.le_refl, Nat.reduceLeDiff, D.pub, D.pubs, Tryz.results47]
    exact ⟨_, rfl, rfl, congrArg bln (by simp [every, h, List.all_eq_not_any_not])⟩
  · simp only [retK, fullK, iterK, resD, resA, AOp.ex, St.ev, Option.map_some, Option.bind_some, St.get, lk, reduceIte, Nat.reduceEqDiff, Option.getD_some, oneD, List.getElem?_cons_zero, List.getElem?_cons_succ, List.drop_zero, List.drop_succ_cons, List.take_succ_cons, List.take_zero, List.length_cons, List.length_nil, Nat.zero_add, Nat.reduceAdd, Nat.le_refl, Nat.reduceLeDiff, D.pub, D.pubs, Tryz.results47]
    exact ⟨_, rfl, rfl, congrArg bln (by simp [every, h])⟩

theorem every_Listener_1 (p : AListener → Bool) (f : FuncId) (he : Enters Tryz.prog f) (x : AListener) (hp : Pure Tryz.prog f [AListener.d x] (fun d => d = bln (p x))) :
    PureB Tryz.prog 90 [AListener.d x, .ptr 1000001 0] [(1000001, [.fn f []])] (fun d => d = bln (!p x)) := by
  refine pureB_of_run follows an_zir97 Tryz.func90 rfl ok_zir97 dst_zir97 (by simp [Tryz.ntmps90]) ?_
  rw [run_start]
  simp only [ac_zir97, go_sem, contS_seq, simprocAttr]
  refine hp.callW he _ rfl rfl ?_
  rintro d rfl
  simp only [go_sem, contS_seq, simprocAttr]
  simp only [retK, fullK, iterK, resD, resA, AOp.ex, St.ev, Option.map_some, Option.bind_some, St.get, lk, reduceIte, Nat.reduceEqDiff, Option.getD_some, oneD, List.getElem?_cons_zero, List.getElem?_cons_succ, List.drop_zero, List.drop_succ_cons, List.take_succ_cons, List.take_zero, List.length_cons, List.length_nil, Nat.zero_add, Nat.reduceAdd, Nat.le_refl, Nat.reduceLeDiff, D.pub, D.pubs, Tryz.results90]
  exact ⟨_, rfl, rfl, rfl⟩

theorem every_Listener (p : AListener → Bool) (f : FuncId) (he : Enters Tryz.prog f) (l : List AListener) (hl : l.length ≤ 1000000) (n : Int) (hp : ∀ x ∈ l, Pure Tryz.prog f [AListener.d x] (fun d => d = bln (p x))) :
    Pure Tryz.prog 54 [.pd (.slice (rows AListener.pd l)), int n, .fn f []] (fun d => d = bln (every p l n)) := by
  refine pure_of_run follows an_zpo9w Tryz.func54 rfl ok_zpo9w dst_zpo9w (by simp [Tryz.ntmps54]) ?_
  rw [run_start]
  simp only [ac_zpo9w, go_sem, contS_seq, simprocAttr, rows_len]
  refine GifP.mk (fun h => ?_) (fun h => ?_)
  · refine (ContainsFunc_Listener (fun x => !p x) 90 (enters_of Tryz.func90 rfl rfl) [(1000001, 0)] [(1000001, [.fn f []])] (Cl.of rfl rfl rfl rfl rfl) l hl (fun x hx => every_Listener_1 p f he x (hp x hx))).callW (enters_of Tryz.func89 rfl rfl) _ [(5, 1000001)] rfl rfl rfl ?_
    rintro d rfl
    simp only [go_sem, contS_seq, simprocAttr]
    simp only [retK, fullK, iterK, resD, resA, AOp.ex, St.ev, Option.map_some, Option.bind_some, St.get, lk, reduceIte, Nat.reduceEqDiff, Option.getD_some, oneD, List.getElem?_cons_zero, List.getElem?_cons_succ, List.drop_zero, List.drop_succ_cons, List.take_succ_cons, List.take_zero, List.length_cons, List.length_nil, Nat.zero_add, Nat.reduceAdd, Nat.le_refl, Nat.reduceLeDiff, D.pub, D.pubs, Tryz.results54]
    exact ⟨_, rfl, rfl, congrArg bln (by simp [every, h, List.all_eq_not_any_not])⟩
  · simp only [retK, fullK, iterK, resD, resA, AOp.ex, St.ev, Option.map_some, Option.bind_some, St.get, lk, reduceIte, Nat.reduceEqDiff, Option.getD_some, oneD, List.getElem?_cons_zero, List.getElem?_cons_succ, List.drop_zero, List.drop_succ_cons, List.take_succ_cons, List.take_zero, List.length_cons, List.length_nil, Nat.zero_add, Nat.reduceAdd, Nat.le_refl, Nat.reduceLeDiff, D.pub, D.pubs, Tryz.results54]
    exact ⟨_, rfl, rfl, congrArg bln (by simp [every, h])⟩

theorem every_Parent_1 (p : AParent → Bool) (f : FuncId) (he : Enters Tryz.prog f) (x : AParent) (hp : Pure Tryz.prog f [AParent.d x] (fun d => d = bln (p x))) :
    PureB Tryz.prog 99 [AParent.d x, .ptr 1000001 0] [(1000001, [.fn f []])] (fun d => d = bln (!p x)) := by
  refine pureB_of_run follows an_z31hg Tryz.func99 rfl ok_z31hg dst_z31hg (by simp [Tryz.ntmps99]) ?_
  rw [run_start]
  simp only [ac_z31hg, go_sem, contS_seq, simprocAttr]
  refine hp.callW he _ rfl rfl ?_
  rintro d rfl
  simp only [go_sem, contS_seq, simprocAttr]
  simp only [retK, fullK, iterK, resD, resA, AOp.ex, St.ev, Option.map_some, Option.bind_some, St.get, lk, reduceIte, Nat.reduceEqDiff, Option.getD_some, oneD, List.getElem?_cons_zero, List.getElem?_cons_succ, List.drop_zero, List.drop_succ_cons, List.take_succ_cons, List.take_zero, List.length_cons, List.length_nil, Nat.zero_add, Nat.reduceAdd, Nat.le_refl, Nat.reduceLeDiff, D.pub, D.pubs, Tryz.results99]
  exact ⟨_, rfl, rfl, rfl⟩

theorem every_Parent (p : AParent → Bool) (f : FuncId) (he : Enters Tryz.prog f) (l : List AParent) (hl : l.length ≤ 1000000) (n : Int) (hp : ∀ x ∈ l, Pure Tryz.prog f [AParent.d x] (fun d => d = bln (p x))) :
    Pure Tryz.prog 63 [.pd (.slice (rows AParent.pd l)), int n, .fn f []] (fun d => d = bln (every p l n)) := by
  refine pure_of_run follows an_zblzf Tryz.func63 rfl ok_zblzf dst_zblzf (by simp [Tryz.ntmps63]) ?_
  rw [run_start]
  simp only [ac_zblzf, go_sem, contS_seq, simprocAttr, rows_len]
  refine GifP.mk (fun h => ?_) (fun h => ?_)
  · refine (ContainsFunc_Parent (fun x => !p x) 99 (enters_of Tryz.func99 rfl rfl) [(1000001, 0)] [(1000001, [.fn f []])] (Cl.of rfl rfl rfl rfl rfl) l hl (fun x hx => every_Parent_1 p f he x (hp x hx))).callW (enters_of Tryz.func94 rfl rfl) _ [(5, 1000001)] rfl rfl rfl ?_
    rintro d rfl
    simp only [go_sem, contS_seq, simprocAttr]
    simp only [retK, fullK, iterK, resD, resA, AOp.ex, St.ev, Option.map_some, Option.bind_some, St.get, lk, reduceIte, Nat.reduceEqDiff, Option.getD_some, oneD, List.getElem?_cons_zero, List.getElem?_cons_succ, List.drop_zero, List.drop_succ_cons, List.take_succ_cons, List.take_zero, List.length_cons, List.length_nil, Nat.zero_add, Nat.reduceAdd, Nat.le_refl, Nat.reduceLeDiff, D.pub, D.pubs, Tryz.results63]
    exact ⟨_, rfl, rfl, congrArg bln (by simp [every, h, List.all_eq_not_any_not])⟩
  · simp only [retK, fullK, iterK, resD, resA, AOp.ex, St.ev, Option.map_some, Option.bind_some, St.get, lk, reduceIte, Nat.reduceEqDiff, Option.getD_some, oneD, List.getElem?_cons_zero, List.getElem?_cons_succ, List.drop_zero, List.drop_succ_cons, List.take_succ_cons, List.take_zero, List.length_cons, List.length_nil, Nat.zero_add, Nat.reduceAdd, Nat.le_refl, Nat.reduceLeDiff, D.pub, D.pubs, Tryz.results63]
    exact ⟨_, rfl, rfl, congrArg bln (by simp [every, h])⟩

theorem every_string_1 (p : ByteArray → Bool) (f : FuncId) (he : Enters Tryz.prog f) (x : ByteArray) (hp : Pure Tryz.prog f [str x] (fun d => d = bln (p x))) :
    PureB Tryz.prog 100 [str x, .ptr 1000001 0] [(1000001, [.fn f []])] (fun d => d = bln (!p x)) := by
  refine pureB_of_run follows an_z1wya Tryz.func100 rfl ok_z1wya dst_z1wya (by simp [Tryz.ntmps100]) ?_
  rw [run_start]
  simp only [ac_z1wya, go_sem, contS_seq, simprocAttr]
  refine hp.callW he _ rfl rfl ?_
  rintro d rfl
  simp only [go_sem, contS_seq, simprocAttr]
  simp only [retK, fullK, iterK, resD, resA, AOp.ex, St.ev, Option.map_some, Option.bind_some, St.get, lk, reduceIte, Nat.reduceEqDiff, Option.getD_some, oneD, List.getElem?_cons_zero, List.getElem?_cons_succ, List.drop_zero, List.drop_succ_cons, List.take_succ_cons, List.take_zero, List.length_cons, List.length_nil, Nat.zero_add, Nat.reduceAdd, Nat.le_refl, Nat.reduceLeDiff, D.pub, D.pubs, Tryz.results100]
  exact ⟨_, rfl, rfl, rfl⟩

theorem every_string (p : ByteArray → Bool) (f : FuncId) (he : Enters Tryz.prog f) (l : List ByteArray) (hl : l.length ≤ 1000000) (n : Int) (hp : ∀ x ∈ l, Pure Tryz.prog f [str x] (fun d => d = bln (p x))) :
    Pure Tryz.prog 65 [.pd (.slice (rows cStr l)), int n, .fn f []] (fun d => d = bln (every p l n)) := by
  refine pure_of_run follows an_zch4 Tryz.func65 rfl ok_zch4 dst_zch4 (by simp [Tryz.ntmps65]) ?_
  rw [run_start]
  simp only [ac_zch4, go_sem, contS_seq, simprocAttr, rows_len]
  refine GifP.mk (fun h => ?_) (fun h => ?_)
  · refine (ContainsFunc_string (fun x => !p x) 100 (enters_of Tryz.func100 rfl rfl) [(1000001, 0)] [(1000001, [.fn f []])] (Cl.of rfl rfl rfl rfl rfl) l hl (fun x hx => every_string_1 p f he x (hp x hx))).callW (enters_of Tryz.func96 rfl rfl) _ [(5, 1000001)] rfl rfl rfl ?_
    rintro d rfl
    simp only [go_sem, contS_seq, simprocAttr]
    simp only [retK, fullK, iterK, resD, resA, AOp.ex, St.ev, Option.map_some, Option.bind_some, St.get, lk, reduceIte, Nat.reduceEqDiff, Option.getD_some, oneD, List.getElem?_cons_zero, List.getElem?_cons_succ, List.drop_zero, List.drop_succ_cons, List.take_succ_cons, List.take_zero, List.length_cons, List.length_nil, Nat.zero_add, Nat.reduceAdd, Nat.le_refl, Nat.reduceLeDiff, D.pub, D.pubs, Tryz.results65]
    exact ⟨_, rfl, rfl, congrArg bln (by simp [every, h, List.all_eq_not_any_not])⟩
  · simp only [retK, fullK, iterK, resD, resA, AOp.ex, St.ev, Option.map_some, Option.bind_some, St.get, lk, reduceIte, Nat.reduceEqDiff, Option.getD_some, oneD, List.getElem?_cons_zero, List.getElem?_cons_succ, List.drop_zero, List.drop_succ_cons, List.take_succ_cons, List.take_zero, List.length_cons, List.length_nil, Nat.zero_add, Nat.reduceAdd, Nat.le_refl, Nat.reduceLeDiff, D.pub, D.pubs, Tryz.results65]
    exact ⟨_, rfl, rfl, congrArg bln (by simp [every, h])⟩

theorem every_Rule_1 (p : ARule → Bool) (f : FuncId) (he : Enters Tryz.prog f) (x : ARule) (hp : Pure Tryz.prog f [ARule.d x] (fun d => d = bln (p x))) :
    PureB Tryz.prog 102 [ARule.d x, .ptr 1000001 0] [(1000001, [.fn f []])] (fun d => d = bln (!p x)) := by
  refine pureB_of_run follows an_z8keb Tryz.func102 rfl ok_z8keb dst_z8keb (by simp [Tryz.ntmps102]) ?_
  rw [run_start]
  simp only [ac_z8keb, go_sem, contS_seq, simprocAttr]
  refine hp.callW he _ rfl rfl ?_
  rintro d rfl
  simp only [go_sem, contS_seq, simprocAttr]
  simp only [retK, fullK, iterK, resD, resA, AOp.ex, St.ev, Option.map_some, Option.bind_some, St.get, lk, reduceIte, Nat.reduceEqDiff, Option.getD_some, oneD, List.getElem?_cons_zero, List.getElem?_cons_succ, List.drop_zero, List.drop_succ_cons, List.take_succ_cons, List.take_zero, List.length_cons, List.length_nil, Nat.zero_add, Nat.reduceAdd, Nat.le_refl, Nat.reduceLeDiff, D.pub, D.pubs, Tryz.results102]
  exact ⟨_, rfl, rfl, rfl⟩

theorem every_Rule (p : ARule → Bool) (f : FuncId) (he : Enters Tryz.prog f) (l : List ARule) (hl : l.length ≤ 1000000) (n : Int) (hp : ∀ x ∈ l, Pure Tryz.prog f [ARule.d x] (fun d => d = bln (p x))) :
    Pure Tryz.prog 66 [.pd (.slice (rows ARule.pd l)), int n, .fn f []] (fun d => d = bln (every p l n)) := by
  refine pure_of_run follows an_z2qr7 Tryz.func66 rfl ok_z2qr7 dst_z2qr7 (by simp [Tryz.ntmps66]) ?_
  rw [run_start]
  simp only [ac_z2qr7, go_sem, contS_seq, simprocAttr, rows_len]
  refine GifP.mk (fun h => ?_) (fun h => ?_)
  · refine (ContainsFunc_Rule (fun x => !p x) 102 (enters_of Tryz.func102 rfl rfl) [(1000001, 0)] [(1000001, [.fn f []])] (Cl.of rfl rfl rfl rfl rfl) l hl (fun x hx => every_Rule_1 p f he x (hp x hx))).callW (enters_of Tryz.func101 rfl rfl) _ [(5, 1000001)] rfl rfl rfl ?_
    rintro d rfl
    simp only [go_sem, contS_seq, simprocAttr]
    simp only [retK, fullK, iterK, resD, resA, AOp.ex, St.ev, Option.map_some, Option.bind_some, St.get, lk, reduceIte, Nat.reduceEqDiff, Option.getD_some, oneD, List.getElem?_cons_zero, List.getElem?_cons_succ, List.drop_zero, List.drop_succ_cons, List.take_succ_cons, List.take_zero, List.length_cons, List.length_nil, Nat.zero_add, Nat.reduceAdd, Nat.le_refl, Nat.reduceLeDiff, D.pub, D.pubs, Tryz.results66]
    exact ⟨_, rfl, rfl, congrArg bln (by simp [every, h, List.all_eq_not_any_not])⟩
  · simp only [retK, fullK, iterK, resD, resA, AOp.ex, St.ev, Option.map_some, Option.bind_some, St.get, lk, reduceIte, Nat.reduceEqDiff, Option.getD_some, oneD, List.getElem?_cons_zero, List.getElem?_cons_succ, List.drop_zero, List.drop_succ_cons, List.take_succ_cons, List.take_zero, List.length_cons, List.length_nil, Nat.zero_add, Nat.reduceAdd, Nat.le_refl, Nat.reduceLeDiff, D.pub, D.pubs, Tryz.results66]
    exact ⟨_, rfl, rfl, congrArg bln (by simp [every, h])⟩

theorem every_Side_1 (p : ASide → Bool) (f : FuncId) (he : Enters Tryz.prog f) (x : ASide) (hp : Pure Tryz.prog f [ASide.d x] (fun d => d = bln (p x))) :
    PureB Tryz.prog 111 [ASide.d x, .ptr 1000001 0] [(1000001, [.fn f []])] (fun d => d = bln (!p x)) := by
  refine pureB_of_run follows an_z7q8a Tryz.func111 rfl ok_z7q8a dst_z7q8a (by simp [Tryz.ntmps111]) ?_
  rw [run_start]
  simp only [ac_z7q8a, go_sem, contS_seq, simprocAttr]
  refine hp.callW he _ rfl rfl ?_
  rintro d rfl
  simp only [go_sem, contS_seq, simprocAttr]
  simp only [retK, fullK, iterK, resD, resA, AOp.ex, St.ev, Option.map_some, Option.bind_some, St.get, lk, reduceIte, Nat.reduceEqDiff, Option.getD_some, oneD, List.getElem?_cons_zero, List.getElem?_cons_succ, List.drop_zero, List.drop_succ_cons, List.take_succ_cons, List.take_zero, List.length_cons, List.length_nil, Nat.zero_add, Nat.reduceAdd, Nat.le_refl, Nat.reduceLeDiff, D.pub, D.pubs, Tryz.results111]
  exact ⟨_, rfl, rfl, rfl⟩

theorem every_Side (p : ASide → Bool) (f : FuncId) (he : Enters Tryz.prog f) (l : List ASide) (hl : l.length ≤ 1000000) (n : Int) (hp : ∀ x ∈ l, Pure Tryz.prog f [ASide.d x] (fun d => d = bln (p x))) :
    Pure Tryz.prog 72 [.pd (.slice (rows ASide.pd l)), int n, .fn f []] (fun d => d = bln (every p l n)) := by
  refine pure_of_run follows an_zqdfu Tryz.func72 rfl ok_zqdfu dst_zqdfu (by simp [Tryz.ntmps72]) ?_
  rw [run_start]
  simp only [ac_zqdfu, go_sem, contS_seq, simprocAttr, rows_len]
  refine GifP.mk (fun h => ?_) (fun h => ?_)
  · refine (ContainsFunc_Side (fun x => !p x) 111 (enters_of Tryz.func111 rfl rfl) [(1000001, 0)] [(1000001, [.fn f []])] (Cl.of rfl rfl rfl rfl rfl) l hl (fun x hx => every_Side_1 p f he x (hp x hx))).callW (enters_of Tryz.func45 rfl rfl) _ [(5, 1000001)] rfl rfl rfl ?_
    rintro d rfl
    simp only [go_sem, contS_seq, simprocAttr]
    simp only [retK, fullK, iterK, resD, resA, AOp.ex, St.ev, Option.map_some, Option.bind_some, St.get, lk, reduceIte, Nat.reduceEqDiff, Option.getD_some, oneD, List.getElem?_cons_zero, List.getElem?_cons_succ, List.drop_zero, List.drop_succ_cons, List.take_succ_cons, List.take_zero, List.length_cons, List.length_nil, Nat.zero_add, Nat.reduceAdd, Nat.le_refl, Nat.reduceLeDiff, D.pub, D.pubs, Tryz.results72]
    exact ⟨_, rfl, rfl, congrArg bln (by simp [every, h, List.all_eq_not_any_not])⟩
  · simp only [retK, fullK, iterK, resD, resA, AOp.ex, St.ev, Option.map_some, Option.bind_some, St.get, lk, reduceIte, Nat.reduceEqDiff, Option.getD_some, oneD, List.getElem?_cons_zero, List.getElem?_cons_succ, List.drop_zero, List.drop_succ_cons, List.take_succ_cons, List.take_zero, List.length_cons, List.length_nil, Nat.zero_add, Nat.reduceAdd, Nat.le_refl, Nat.reduceLeDiff, D.pub, D.pubs, Tryz.results72]
    exact ⟨_, rfl, rfl, congrArg bln (by simp [every, h])⟩

theorem every_Match_1 (p : AMatch → Bool) (f : FuncId) (he : Enters Tryz.prog f) (x : AMatch) (hp : Pure Tryz.prog f [AMatch.d x] (fun d => d = bln (p x))) :
    PureB Tryz.prog 129 [AMatch.d x, .ptr 1000001 0] [(1000001, [.fn f []])] (fun d => d = bln (!p x)) := by
  refine pureB_of_run follows an_z7wca Tryz.func129 rfl ok_z7wca dst_z7wca (by simp [Tryz.ntmps129]) ?_
  rw [run_start]
  simp only [ac_z7wca, go_sem, contS_seq, simprocAttr]
  refine hp.callW he _ rfl rfl ?_
  rintro d rfl
  simp only [go_sem, contS_seq, simprocAttr]
  simp only [retK, fullK, iterK, resD, resA, AOp.ex, St.ev, Option.map_some, Option.bind_some, St.get, lk, reduceIte, Nat.reduceEqDiff, Option.getD_some, oneD, List.getElem?_cons_zero, List.getElem?_cons_succ, List.drop_zero, List.drop_succ_cons, List.take_succ_cons, List.take_zero, List.length_cons, List.length_nil, Nat.zero_add, Nat.reduceAdd, Nat.le_refl, Nat.reduceLeDiff, D.pub, D.pubs, Tryz.results129]
  exact ⟨_, rfl, rfl, rfl⟩

theorem every_Match (p : AMatch → Bool) (f : FuncId) (he : Enters Tryz.prog f) (l : List AMatch) (hl : l.length ≤ 1000000) (n : Int) (hp : ∀ x ∈ l, Pure Tryz.prog f [AMatch.d x] (fun d => d = bln (p x))) :
    Pure Tryz.prog 103 [.pd (.slice (rows AMatch.pd l)), int n, .fn f []] (fun d => d = bln (every p l n)) := by
  refine pure_of_run follows an_ziqd0 Tryz.func103 rfl ok_ziqd0 dst_ziqd0 (by simp [Tryz.ntmps103]) ?_
  rw [run_start]
  simp only [ac_ziqd0, go_sem, contS_seq, simprocAttr, rows_len]
  refine GifP.mk (fun h => ?_) (fun h => ?_)
  · refine (ContainsFunc_Match (fun x => !p x) 129 (enters_of Tryz.func129 rfl rfl) [(1000001, 0)] [(1000001, [.fn f []])] (Cl.of rfl rfl rfl rfl rfl) l hl (fun x hx => every_Match_1 p f he x (hp x hx))).callW (enters_of Tryz.func128 rfl rfl) _ [(5, 1000001)] rfl rfl rfl ?_
    rintro d rfl
    simp only [go_sem, contS_seq, simprocAttr]
    simp only [retK, fullK, iterK, resD, resA, AOp.ex, St.ev, Option.map_some, Option.bind_some, St.get, lk, reduceIte, Nat.reduceEqDiff, Option.getD_some, oneD, List.getElem?_cons_zero, List.getElem?_cons_succ, List.drop_zero, List.drop_succ_cons, List.take_succ_cons, List.take_zero, List.length_cons, List.length_nil, Nat.zero_add, Nat.reduceAdd, Nat.le_refl, Nat.reduceLeDiff, D.pub, D.pubs, Tryz.results103]
    exact ⟨_, rfl, rfl, congrArg bln (by simp [every, h, List.all_eq_not_any_not])⟩
  · simp only [retK, fullK, iterK, resD, resA, AOp.ex, St.ev, Option.map_some, Option.bind_some, St.get, lk, reduceIte, Nat.reduceEqDiff, Option.getD_some, oneD, List.getElem?_cons_zero, List.getElem?_cons_succ, List.drop_zero, List.drop_succ_cons, List.take_succ_cons, List.take_zero, List.length_cons, List.length_nil, Nat.zero_add, Nat.reduceAdd, Nat.le_refl, Nat.reduceLeDiff, D.pub, D.pubs, Tryz.results103]
    exact ⟨_, rfl, rfl, congrArg bln (by simp [every, h])⟩

theorem every_Backend_1 (p : ABackend → Bool) (f : FuncId) (he : Enters Tryz.prog f) (x : ABackend) (hp : Pure Tryz.prog f [ABackend.d x] (fun d => d = bln (p x))) :
    PureB Tryz.prog 145 [ABackend.d x, .ptr 1000001 0] [(1000001, [.fn f []])] (fun d => d = bln (!p x)) := by
  refine pureB_of_run follows an_zi55u Tryz.func145 rfl ok_zi55u dst_zi55u (by simp [Tryz.ntmps145]) ?_
  rw [run_start]
  simp only [ac_zi55u, go_sem, contS_seq, simprocAttr]
  refine hp.callW he _ rfl rfl ?_
  rintro d rfl
  simp only [go_sem, contS_seq, simprocAttr]
  simp only [retK, fullK, iterK, resD, resA, AOp.ex, St.ev, Option.map_some, Option.bind_some, St.get, lk, reduceIte, Nat.reduceEqDiff, Option.getD_some, oneD, List.getElem?_cons_zero, List.getElem?_cons_succ, List.drop_zero, List.drop_succ_cons, List.take_succ_cons, List.take_zero, List.length_cons, List.length_nil, Nat.zero_add, Nat.reduceAdd, Nat.le_refl, Nat.reduceLeDiff, D.pub, D.pubs, Tryz.results145]
  exact ⟨_, rfl, rfl, rfl⟩

theorem every_Backend (p : ABackend → Bool) (f : FuncId) (he : Enters Tryz.prog f) (l : List ABackend) (hl : l.length ≤ 1000000) (n : Int) (hp : ∀ x ∈ l, Pure Tryz.prog f [ABackend.d x] (fun d => d = bln (p x))) :
    Pure Tryz.prog 106 [.pd (.slice (rows ABackend.pd l)), int n, .fn f []] (fun d => d = bln (every p l n)) := by
  refine pure_of_run follows an_zb5o4 Tryz.func106 rfl ok_zb5o4 dst_zb5o4 (by simp [Tryz.ntmps106]) ?_
  rw [run_start]
  simp only [ac_zb5o4, go_sem, contS_seq, simprocAttr, rows_len]
  refine GifP.mk (fun h => ?_) (fun h => ?_)
  · refine (ContainsFunc_Backend (fun x => !p x) 145 (enters_of Tryz.func145 rfl rfl) [(1000001, 0)] [(1000001, [.fn f []])] (Cl.of rfl rfl rfl rfl rfl) l hl (fun x hx => every_Backend_1 p f he x (hp x hx))).callW (enters_of Tryz.func144 rfl rfl) _ [(5, 1000001)] rfl rfl rfl ?_
    rintro d rfl
    simp only [go_sem, contS_seq, simprocAttr]
    simp only [retK, fullK, iterK, resD, resA, AOp.ex, St.ev, Option.map_some, Option.bind_some, St.get, lk, reduceIte, Nat.reduceEqDiff, Option.getD_some, oneD, List.getElem?_cons_zero, List.getElem?_cons_succ, List.drop_zero, List.drop_succ_cons, List.take_succ_cons, List.take_zero, List.length_cons, List.length_nil, Nat.zero_add, Nat.reduceAdd, Nat.le_refl, Nat.reduceLeDiff, D.pub, D.pubs, Tryz.results106]
    exact ⟨_, rfl, rfl, congrArg bln (by simp [every, h, List.all_eq_not_any_not])⟩
  · simp only [retK, fullK, iterK, resD, resA, AOp.ex, St.ev, Option.map_some, Option.bind_some, St.get, lk, reduceIte, Nat.reduceEqDiff, Option.getD_some, oneD, List.getElem?_cons_zero, List.getElem?_cons_succ, List.drop_zero, List.drop_succ_cons, List.take_succ_cons, List.take_zero, List.length_cons, List.length_nil, Nat.zero_add, Nat.reduceAdd, Nat.le_refl, Nat.reduceLeDiff, D.pub, D.pubs, Tryz.results106]
    exact ⟨_, rfl, rfl, congrArg bln (by simp [every, h])⟩

theorem twice_int_1 (q : Int → Int → Bool) (f : FuncId) (he : Enters Tryz.prog f) (x y : Int) (hp : Pure Tryz.prog f [int x, int y] (fun d => d = bln (q x y))) :
    PureB Tryz.prog 87 [int y, .ptr 1000001 0, .ptr 1000002 0] [(1000001, [.fn f []]), (1000002, [int x])] (fun d => d = bln (q x y)) := by
  refine pureB_of_run follows an_zovpw Tryz.func87 rfl ok_zovpw dst_zovpw (by simp [Tryz.ntmps87]) ?_
  rw [run_start]
  simp only [ac_zovpw, go_sem, contS_seq, simprocAttr]
  refine hp.callW he _ rfl rfl ?_
  rintro d rfl
  simp only [go_sem, contS_seq, simprocAttr]
  simp only [retK, fullK, iterK, resD, resA, AOp.ex, St.ev, Option.map_some, Option.bind_some, St.get, lk, reduceIte, Nat.reduceEqDiff, Option.getD_some, oneD, List.getElem?_cons_zero, List.getElem?_cons_succ, List.drop_zero, List.drop_succ_cons, List.take_succ_cons, List.take_zero, List.length_cons, List.length_nil, Nat.zero_add, Nat.reduceAdd, Nat.le_refl, Nat.reduceLeDiff, D.pub, D.pubs, Tryz.results87]
  exact ⟨_, rfl, rfl, rfl⟩

theorem twice_int (q : Int → Int → Bool) (f : FuncId) (he : Enters Tryz.prog f) (l : List Int) (hl : l.length ≤ 1000000) (hp : ∀ x ∈ l, ∀ y ∈ l, Pure Tryz.prog f [int x, int y] (fun d => d = bln (q x y))) :
    Pure Tryz.prog 50 [.pd (.slice (rows cInt l)), .fn f []] (fun d => d = bln (twice q l)) := by
  refine pure_of_run follows an_zb3kh Tryz.func50 rfl ok_zb3kh dst_zb3kh (by simp [Tryz.ntmps50]) ?_
  rw [run_start]
  simp only [ac_zb3kh, go_sem, contS_seq, simprocAttr, rows_len]
  refine loopS (fun k st => ∃ i : Nat, k = l.length - i ∧ i ≤ l.length ∧ twiceFrom q l k i = twice q l ∧
    st = ⟨[(0, .pd (.slice (rows cInt l))), (3, .ptr 3 0), (7, .pd (.slice (rows cInt l))), (8, int l.length), (9, int i)], [(3, [.fn f []])], [], .no⟩) l.length _ (Weak.refl _ _) ⟨0, rfl, Nat.zero_le _, rfl, rfl⟩ ?_
  rintro k st ⟨i, rfl, hi, hr, rfl⟩
  by_cases hlt : i < l.length
  · obtain ⟨x, hx⟩ := at_lt hlt
    have hlt' : ((i : Int) < (l.length : Int)) = True := eq_true (by omega)
    have hle : (i ≤ l.length) = True := eq_true (by omega)
    have hw := i64_succ (show i < 1000000000 by omega)
    have hmx := List.mem_of_getElem? hx
    obtain ⟨m, hm⟩ : ∃ m, l.length - i = m + 1 := ⟨l.length - i - 1, by omega⟩
    rw [hm, twiceFrom, hx] at hr
    have hrows : rowsOK 1 (rows cInt l) = True := rowsOK_rows (f := cInt) (n := 1) (fun _ => rfl) l
    have htk : (rows cInt l).take i = rows cInt (l.take i) := by simp [rows, List.map_take]
    simp only [go_sem, contS_seq, simprocAttr, hlt', rows_get hx, rows_len, hrows, hle, htk]
    refine (ContainsFunc_int (fun y => q x y) 87 (enters_of Tryz.func87 rfl rfl) [(1000001, 0), (1000002, 0)] [(1000001, [.fn f []]), (1000002, [int x])] (Cl.of rfl rfl rfl rfl rfl) (l.take i) (by simp; omega)
      (fun y hy => twice_int_1 q f he x y (hp x hmx y (List.mem_of_mem_take hy)))).callW (enters_of Tryz.func84 rfl rfl) _ [(3, 1000001), (6, 1000002)] rfl rfl rfl ?_
    rintro d rfl
    simp only [go_sem, contS_seq, simprocAttr, hw]
    refine Gif.mk (fun h => ?_) (fun h => ?_)
    · simp only [h, Bool.true_or] at hr
      simp only [retK, fullK, iterK, resD, resA, AOp.ex, St.ev, Option.map_some, Option.bind_some, St.get, lk, reduceIte, Nat.reduceEqDiff, Option.getD_some, oneD, List.getElem?_cons_zero, List.getElem?_cons_succ, List.drop_zero, List.drop_succ_cons, List.take_succ_cons, List.take_zero, List.length_cons, List.length_nil, Nat.zero_add, Nat.reduceAdd, Nat.le_refl, Nat.reduceLeDiff, D.pub, D.pubs, Tryz.results50]
      exact ⟨_, rfl, rfl, congrArg bln hr⟩
    · simp only [h, Bool.false_or] at hr
      refine ⟨m, _, ?_, ?_, i + 1, ?_, ?_, hr, rfl⟩
      · omega
      · exact Weak.less (by simp [lessL, lk]) (by simp [lessL, lk]) (by simp [lessL, lk]) rfl
      · omega
      · omega
  · have hlt' : ((i : Int) < (l.length : Int)) = False := eq_false (by omega)
    rw [show l.length - i = 0 by omega, twiceFrom] at hr
    simp only [go_sem, contS_seq, simprocAttr, rows_len, hlt']
    simp only [retK, fullK, iterK, resD, resA, AOp.ex, St.ev, Option.map_some, Option.bind_some, St.get, lk, reduceIte, Nat.reduceEqDiff, Option.getD_some, oneD, List.getElem?_cons_zero, List.getElem?_cons_succ, List.drop_zero, List.drop_succ_cons, List.take_succ_cons, List.take_zero, List.length_cons, List.length_nil, Nat.zero_add, Nat.reduceAdd, Nat.le_refl, Nat.reduceLeDiff, D.pub, D.pubs, Tryz.results50]
    exact ⟨_, rfl, rfl, congrArg bln hr⟩

theorem twice_Listener_1 (q : AListener → AListener → Bool) (f : FuncId) (he : Enters Tryz.prog f) (x y : AListener) (hp : Pure Tryz.prog f [AListener.d x, AListener.d y] (fun d => d = bln (q x y))) :
    PureB Tryz.prog 93 [AListener.d y, .ptr 1000001 0, .ptr 1000002 0] [(1000001, [.fn f []]), (1000002, AListener.ds x)] (fun d => d = bln (q x y)) := by
  refine pureB_of_run follows an_ztyjm Tryz.func93 rfl ok_ztyjm dst_ztyjm (by simp [Tryz.ntmps93]) ?_
  rw [run_start]
  simp only [ac_ztyjm, go_sem, contS_seq, simprocAttr]
  refine hp.callW he _ rfl rfl ?_
  rintro d rfl
  simp only [go_sem, contS_seq, simprocAttr]
  simp only [retK, fullK, iterK, resD, resA, AOp.ex, St.ev, Option.map_some, Option.bind_some, St.get, lk, reduceIte, Nat.reduceEqDiff, Option.getD_some, oneD, List.getElem?_cons_zero, List.getElem?_cons_succ, List.drop_zero, List.drop_succ_cons, List.take_succ_cons, List.take_zero, List.length_cons, List.length_nil, Nat.zero_add, Nat.reduceAdd, Nat.le_refl, Nat.reduceLeDiff, D.pub, D.pubs, Tryz.results93]
  exact ⟨_, rfl, rfl, rfl⟩

theorem twice_Listener (q : AListener → AListener → Bool) (f : FuncId) (he : Enters Tryz.prog f) (l : List AListener) (hl : l.length ≤ 1000000) (hp : ∀ x ∈ l, ∀ y ∈ l, Pure Tryz.prog f [AListener.d x, AListener.d y] (fun d => d = bln (q x y))) :
    Pure Tryz.prog 56 [.pd (.slice (rows AListener.pd l)), .fn f []] (fun d => d = bln (twice q l)) := by
  refine pure_of_run follows an_zp700 Tryz.func56 rfl ok_zp700 dst_zp700 (by simp [Tryz.ntmps56]) ?_
  rw [run_start]
  simp only [ac_zp700, go_sem, contS_seq, simprocAttr, rows_len]
  refine loopS (fun k st => ∃ i : Nat, k = l.length - i ∧ i ≤ l.length ∧ twiceFrom q l k i = twice q l ∧
    st = ⟨[(0, .pd (.slice (rows AListener.pd l))), (3, .ptr 3 0), (7, .pd (.slice (rows AListener.pd l))), (8, int l.length), (9, int i)], [(3, [.fn f []])], [], .no⟩) l.length _ (Weak.refl _ _) ⟨0, rfl, Nat.zero_le _, rfl, rfl⟩ ?_
  rintro k st ⟨i, rfl, hi, hr, rfl⟩
  by_cases hlt : i < l.length
  · obtain ⟨x, hx⟩ := at_lt hlt
    have hlt' : ((i : Int) < (l.length : Int)) = True := eq_true (by omega)
    have hle : (i ≤ l.length) = True := eq_true (by omega)
    have hw := i64_succ (show i < 1000000000 by omega)
    have hmx := List.mem_of_getElem? hx
    obtain ⟨m, hm⟩ : ∃ m, l.length - i = m + 1 := ⟨l.length - i - 1, by omega⟩
    rw [hm, twiceFrom, hx] at hr
    have hrows : rowsOK 9 (rows AListener.pd l) = True := rowsOK_rows (f := AListener.pd) (n := 9) (fun _ => rfl) l
    have htk : (rows AListener.pd l).take i = rows AListener.pd (l.take i) := by simp [rows, List.map_take]
    simp only [go_sem, contS_seq, simprocAttr, hlt', rows_get hx, rows_len, hrows, hle, htk]
    refine (ContainsFunc_Listener (fun y => q x y) 93 (enters_of Tryz.func93 rfl rfl) [(1000001, 0), (1000002, 0)] [(1000001, [.fn f []]), (1000002, AListener.ds x)] (Cl.of rfl rfl rfl rfl rfl) (l.take i) (by simp; omega)
      (fun y hy => twice_Listener_1 q f he x y (hp x hmx y (List.mem_of_mem_take hy)))).callW (enters_of Tryz.func89 rfl rfl) _ [(3, 1000001), (6, 1000002)] rfl rfl rfl ?_
    rintro d rfl
    simp only [go_sem, contS_seq, simprocAttr, hw]
    refine Gif.mk (fun h => ?_) (fun h => ?_)
    · simp only [h, Bool.true_or] at hr
      simp only [retK, fullK, iterK, resD, resA, AOp.ex, St.ev, Option.map_some, Option.bind_some, St.get, lk, reduceIte, Nat.reduceEqDiff, Option.getD_some, oneD, List.getElem?_cons_zero, List.getElem?_cons_succ, List.drop_zero, List.drop_succ_cons, List.take_succ_cons, List.take_zero, List.length_cons, List.length_nil, Nat.zero_add, Nat.reduceAdd, Nat.le_refl, Nat.reduceLeDiff, D.pub, D.pubs, Tryz.results56]
      exact ⟨_, rfl, rfl, congrArg bln hr⟩
    · simp only [h, Bool.false_or] at hr
      refine ⟨m, _, ?_, ?_, i + 1, ?_, ?_, hr, rfl⟩
      · omega
      · exact Weak.less (by simp [lessL, lk]) (by simp [lessL, lk]) (by simp [lessL, lk]) rfl
      · omega
      · omega
  · have hlt' : ((i : Int) < (l.length : Int)) = False := eq_false (by omega)
    rw [show l.length - i = 0 by omega, twiceFrom] at hr
    simp only [go_sem, contS_seq, simprocAttr, rows_len, hlt']
    simp only [retK, fullK, iterK, resD, resA, AOp.ex, St.ev, Option.map_some, Option.bind_some, St.get, lk, reduceIte, Nat.reduceEqDiff, Option.getD_some, oneD, List.getElem?_cons_zero, List.getElem?_cons_succ, List.drop_zero, List.drop_succ_cons, List.take_succ_cons, List.take_zero, List.length_cons, List.length_nil, Nat.zero_add, Nat.reduceAdd, Nat.le_refl, Nat.reduceLeDiff, D.pub, D.pubs, Tryz.results56]
    exact ⟨_, rfl, rfl, congrArg bln hr⟩

theorem twice_Parent_1 (q : AParent → AParent → Bool) (f : FuncId) (he : Enters Tryz.prog f) (x y : AParent) (hp : Pure Tryz.prog f [AParent.d x, AParent.d y] (fun d => d = bln (q x y))) :
    PureB Tryz.prog 95 [AParent.d y, .ptr 1000001 0, .ptr 1000002 0] [(1000001, [.fn f []]), (1000002, AParent.ds x)] (fun d => d = bln (q x y)) := by
  refine pureB_of_run follows an_z6aq8 Tryz.func95 rfl ok_z6aq8 dst_z6aq8 (by simp [Tryz.ntmps95]) ?_
  rw [run_start]
  simp only [ac_z6aq8, go_sem, contS_seq, simprocAttr]
  refine hp.callW he _ rfl rfl ?_
  rintro d rfl
  simp only [go_sem, contS_seq, simprocAttr]
  simp only [retK, fullK, iterK, resD, resA, AOp.ex, St.ev, Option.map_some, Option.bind_some, St.get, lk, reduceIte, Nat.reduceEqDiff, Option.getD_some, oneD, List.getElem?_cons_zero, List.getElem?_cons_succ, List.drop_zero, List.drop_succ_cons, List.take_succ_cons, List.take_zero, List.length_cons, List.length_nil, Nat.zero_add, Nat.reduceAdd, Nat.le_refl, Nat.reduceLeDiff, D.pub, D.pubs, Tryz.results95]
  exact ⟨_, rfl, rfl, rfl⟩

theorem twice_Parent (q : AParent → AParent → Bool) (f : FuncId) (he : Enters Tryz.prog f) (l : List AParent) (hl : l.length ≤ 1000000) (hp : ∀ x ∈ l, ∀ y ∈ l, Pure Tryz.prog f [AParent.d x, AParent.d y] (fun d => d = bln (q x y))) :
    Pure Tryz.prog 57 [.pd (.slice (rows AParent.pd l)), .fn f []] (fun d => d = bln (twice q l)) := by
  refine pure_of_run follows an_zo7vn Tryz.func57 rfl ok_zo7vn dst_zo7vn (by simp [Tryz.ntmps57]) ?_
  rw [run_start]
  simp only [ac_zo7vn, go_sem, contS_seq, simprocAttr, rows_len]
  refine loopS (fun k st => ∃ i : Nat, k = l.length - i ∧ i ≤ l.length ∧ twiceFrom q l k i = twice q l ∧
    st = ⟨[(0, .pd (.slice (rows AParent.pd l))), (3, .ptr 3 0), (7, .pd (.slice (rows AParent.pd l))), (8, int l.length), (9, int i)], [(3, [.fn f []])], [], .no⟩) l.length _ (Weak.refl _ _) ⟨0, rfl, Nat.zero_le _, rfl, rfl⟩ ?_
  rintro k st ⟨i, rfl, hi, hr, rfl⟩
  by_cases hlt : i < l.length
  · obtain ⟨x, hx⟩ := at_lt hlt
    have hlt' : ((i : Int) < (l.length : Int)) = True := eq_true (by omega)
    have hle : (i ≤ l.length) = True := eq_true (by omega)
    have hw := i64_succ (show i < 1000000000 by omega)
    have hmx := List.mem_of_getElem? hx
    obtain ⟨m, hm⟩ : ∃ m, l.length - i = m + 1 := ⟨l.length - i - 1, by omega⟩
    rw [hm, twiceFrom, hx] at hr
    have hrows : rowsOK 4 (rows AParent.pd l) = True := rowsOK_rows (f := AParent.pd) (n := 4) (fun _ => rfl) l
    have htk : (rows AParent.pd l).take i = rows AParent.pd (l.take i) := by simp [rows, List.map_take]
    simp only [go_sem, contS_seq, simprocAttr, hlt', rows_get hx, rows_len, hrows, hle, htk]
    refine (ContainsFunc_Parent (fun y => q x y) 95 (enters_of Tryz.func95 rfl rfl) [(1000001, 0), (1000002, 0)] [(1000001, [.fn f []]), (1000002, AParent.ds x)] (Cl.of rfl rfl rfl rfl rfl) (l.take i) (by simp; omega)
      (fun y hy => twice_Parent_1 q f he x y (hp x hmx y (List.mem_of_mem_take hy)))).callW (enters_of Tryz.func94 rfl rfl) _ [(3, 1000001), (6, 1000002)] rfl rfl rfl ?_
    rintro d rfl
    simp only [go_sem, contS_seq, simprocAttr, hw]
    refine Gif.mk (fun h => ?_) (fun h => ?_)
    · simp only [h, Bool.true_or] at hr
      simp only [retK, fullK, iterK, resD, resA, AOp.ex, St.ev, Option.map_some, Option.bind_some, St.get, lk, reduceIte, Nat.reduceEqDiff, Option.getD_some, oneD, List.getElem?_cons_zero, List.getElem?_cons_succ, List.drop_zero, List.drop_succ_cons, List.take_succ_cons, List.take_zero, List.length_cons, List.length_nil, Nat.zero_add, Nat.reduceAdd, Nat.le_refl, Nat.reduceLeDiff, D.pub, D.pubs, Tryz.results57]
      exact ⟨_, rfl, rfl, congrArg bln hr⟩
    · simp only [h, Bool.false_or] at hr
      refine ⟨m, _, ?_, ?_, i + 1, ?_, ?_, hr, rfl⟩
      · omega
      · exact Weak.less (by simp [lessL, lk]) (by simp [lessL, lk]) (by simp [lessL, lk]) rfl
      · omega
      · omega
  · have hlt' : ((i : Int) < (l.length : Int)) = False := eq_false (by omega)
    rw [show l.length - i = 0 by omega, twiceFrom] at hr
    simp only [go_sem, contS_seq, simprocAttr, rows_len, hlt']
    simp only [retK, fullK, iterK, resD, resA, AOp.ex, St.ev, Option.map_some, Option.bind_some, St.get, lk, reduceIte, Nat.reduceEqDiff, Option.getD_some, oneD, List.getElem?_cons_zero, List.getElem?_cons_succ, List.drop_zero, List.drop_succ_cons, List.take_succ_cons, List.take_zero, List.length_cons, List.length_nil, Nat.zero_add, Nat.reduceAdd, Nat.le_refl, Nat.reduceLeDiff, D.pub, D.pubs, Tryz.results57]
    exact ⟨_, rfl, rfl, congrArg bln hr⟩

theorem twice_string_1 (q : ByteArray → ByteArray → Bool) (f : FuncId) (he : Enters Tryz.prog f) (x y : ByteArray) (hp : Pure Tryz.prog f [str x, str y] (fun d => d = bln (q x y))) :
    PureB Tryz.prog 97 [str y, .ptr 1000001 0, .ptr 1000002 0] [(1000001, [.fn f []]), (1000002, [str x])] (fun d => d = bln (q x y)) := by
  refine pureB_of_run follows an_zwcip Tryz.func97 rfl ok_zwcip dst_zwcip (by simp [Tryz.ntmps97]) ?_
  rw [run_start]
  simp only [ac_zwcip, go_sem, contS_seq, simprocAttr]
  refine hp.callW he _ rfl rfl ?_
  rintro d rfl
  simp only [go_sem, contS_seq, simprocAttr]
  simp only [retK, fullK, iterK, resD, resA, AOp.ex, St.ev, Option.map_some, Option.bind_some, St.get, lk, reduceIte, Nat.reduceEqDiff, Option.getD_some, oneD, List.getElem?_cons_zero, List.getElem?_cons_succ, List.drop_zero, List.drop_succ_cons, List.take_succ_cons, List.take_zero, List.length_cons, List.length_nil, Nat.zero_add, Nat.reduceAdd, Nat.le_refl, Nat.reduceLeDiff, D.pub, D.pubs, Tryz.results97]
  exact ⟨_, rfl, rfl, rfl⟩

theorem twice_string (q : ByteArray → ByteArray → Bool) (f : FuncId) (he : Enters Tryz.prog f) (l : List ByteArray) (hl : l.length ≤ 1000000) (hp : ∀ x ∈ l, ∀ y ∈ l, Pure Tryz.prog f [str x, str y] (fun d => d = bln (q x y))) :
    Pure Tryz.prog 59 [.pd (.slice (rows cStr l)), .fn f []] (fun d => d = bln (twice q l)) := by
  refine pure_of_run follows an_zogir Tryz.func59 rfl ok_zogir dst_zogir (by simp [Tryz.ntmps59]) ?_
  rw [run_start]
  simp only [ac_zogir, go_sem, contS_seq, simprocAttr, rows_len]
  refine loopS (fun k st => ∃ i : Nat, k = l.length - i ∧ i ≤ l.length ∧ twiceFrom q l k i = twice q l ∧
    st = ⟨[(0, .pd (.slice (rows cStr l))), (3, .ptr 3 0), (7, .pd (.slice (rows cStr l))), (8, int l.length), (9, int i)], [(3, [.fn f []])], [], .no⟩) l.length _ (Weak.refl _ _) ⟨0, rfl, Nat.zero_le _, rfl, rfl⟩ ?_
  rintro k st ⟨i, rfl, hi, hr, rfl⟩
  by_cases hlt : i < l.length
  · obtain ⟨x, hx⟩ := at_lt hlt
    have hlt' : ((i : Int) < (l.length : Int)) = True := eq_true (by omega)
    have hle : (i ≤ l.length) = True := eq_true (by omega)
    have hw := i64_succ (show i < 1000000000 by omega)
    have hmx := List.mem_of_getElem? hx
    obtain ⟨m, hm⟩ : ∃ m, l.length - i = m + 1 := ⟨l.length - i - 1, by omega⟩
    rw [hm, twiceFrom, hx] at hr
    have hrows : rowsOK 1 (rows cStr l) = True := rowsOK_rows (f := cStr) (n := 1) (fun _ => rfl) l
    have htk : (rows cStr l).take i = rows cStr (l.take i) := by simp [rows, List.map_take]
    simp only [go_sem, contS_seq, simprocAttr, hlt', rows_get hx, rows_len, hrows, hle, htk]
    refine (ContainsFunc_string (fun y => q x y) 97 (enters_of Tryz.func97 rfl rfl) [(1000001, 0), (1000002, 0)] [(1000001, [.fn f []]), (1000002, [str x])] (Cl.of rfl rfl rfl rfl rfl) (l.take i) (by simp; omega)
      (fun y hy => twice_string_1 q f he x y (hp x hmx y (List.mem_of_mem_take hy)))).callW (enters_of Tryz.func96 rfl rfl) _ [(3, 1000001), (6, 1000002)] rfl rfl rfl ?_
    rintro d rfl
    simp only [go_sem, contS_seq, simprocAttr, hw]
    refine Gif.mk (fun h => ?_) (fun h => ?_)
    · simp only [h, Bool.true_or] at hr
      simp only [retK, fullK, iterK, resD, resA, AOp.ex, St.ev, Option.map_some, Option.bind_some, St.get, lk, reduceIte, Nat.reduceEqDiff, Option.getD_some, oneD, List.getElem?_cons_zero, List.getElem?_cons_succ, List.drop_zero, List.drop_succ_cons, List.take_succ_cons, List.take_zero, List.length_cons, List.length_nil, Nat.zero_add, Nat.reduceAdd, Nat.le_refl, Nat.reduceLeDiff, D.pub, D.pubs, Tryz.results59]
      exact ⟨_, rfl, rfl, congrArg bln hr⟩
    · simp only [h, Bool.false_or] at hr
      refine ⟨m, _, ?_, ?_, i + 1, ?_, ?_, hr, rfl⟩
      · omega
      · exact Weak.less (by simp [lessL, lk]) (by simp [lessL, lk]) (by simp [lessL, lk]) rfl
      · omega
      · omega
  · have hlt' : ((i : Int) < (l.length : Int)) = False := eq_false (by omega)
    rw [show l.length - i = 0 by omega, twiceFrom] at hr
    simp only [go_sem, contS_seq, simprocAttr, rows_len, hlt']
    simp only [retK, fullK, iterK, resD, resA, AOp.ex, St.ev, Option.map_some, Option.bind_some, St.get, lk, reduceIte, Nat.reduceEqDiff, Option.getD_some, oneD, List.getElem?_cons_zero, List.getElem?_cons_succ, List.drop_zero, List.drop_succ_cons, List.take_succ_cons, List.take_zero, List.length_cons, List.length_nil, Nat.zero_add, Nat.reduceAdd, Nat.le_refl, Nat.reduceLeDiff, D.pub, D.pubs, Tryz.results59]
    exact ⟨_, rfl, rfl, congrArg bln hr⟩

end Go.Proofs.YtmdepehjfnpklaaGreatDoor
