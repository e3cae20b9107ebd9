/- Texts of the prover's, joined: D4 G1 G2 G3 G4. -/
import Derived.Test.YtjhomppadppfnaaGreatDoorL4
import Derived.Test.YtjhomppadppfnaaGreatDoorProg
import Derived.KernelRfl

namespace Go.Proofs.YtjhomppadppfnaaGreatDoor
open Go

/-- slices.ContainsFunc[[]toll/api.Side,toll/api.Side] -/
def an_z34 : Ann := ⟨[(0, [0, 1]), (1, [4])], [], []⟩
def ac_z34 : AC := (.seq (.region [.mk none (some 4) (.mv (.const (.bool false)))] (some [0, 1])) (.seq (.region [.mk none (some 5) (.mv (.tmp 0)), .mk none (some 6) (.mv (.tmp 1)), .mk none (some 7) (.call 92 [.tmp 5, .tmp 6]), .mk none (some 8) (.bin .geq (.tmp 7) (.const (.int .i64 0))), .mk none (some 4) (.mv (.tmp 8))] (some [4])) .ret))
theorem ok_z34 : compC Tryz.prog an_z34 (Tryz.f53.body.getD .skip) = some ac_z34 := by kernel_rfl
theorem dst_z34 : ac_z34.dstOK Tryz.f53.ntmps (fun i => decide (i < Tryz.f53.ntmps)) = true := by kernel_rfl

/-- slices.IndexFunc[[]toll/api.Object,toll/api.Object] -/
def an_z35 : Ann := ⟨[(0, [0, 1]), (1, [0, 1, 7, 8]), (2, [0, 1, 7, 8, 9]), (3, [0, 1, 5, 7, 8]), (4, [0, 1, 5, 7, 8, 16]), (5, [4]), (6, [0, 1, 7, 8]), (7, [4])], [], []⟩
def ac_z35 : AC := (.seq (.region [.mk none (some 4) (.mv (.const (.int .i64 0)))] (some [0, 1])) (.seq (.seq (.region [.mk none (some 6) (.mv (.tmp 0)), .mk none (some 7) (.len (.tmp 6) false), .mk none (some 8) (.mv (.const (.int .i64 0)))] (some [0, 1, 7, 8])) (.block 0 (.loop (.seq (.region [.mk none (some 9) (.bin .lss (.tmp 8) (.tmp 7))] (some [0, 1, 7, 8, 9])) (.seq (.cond (.tmp 9) .skip (.exit 0)) (.seq (.block 1 (.seq (.region [.mk none (some 10) (.mv (.tmp 8)), .mk none (some 5) (.mv (.tmp 10))] (some [0, 1, 5, 7, 8])) (.seq (.region [.mk none (some 11) (.mv (.tmp 1)), .mk none (some 12) (.mv (.tmp 0)), .mk none (some 13) (.mv (.tmp 5)), .mk none (some 14) (.idxA 13 (.tmp 12) (.tmp 13)), .mk none (some 15) (.load (some 13) (.tmp 14)), .mk none (some 16) (.callv (.tmp 11) [.tmp 15])] (some [0, 1, 5, 7, 8, 16])) (.cond (.tmp 16) (.seq (.region [.mk none (some 17) (.mv (.tmp 5)), .mk none (some 4) (.mv (.tmp 17))] (some [4])) .ret) .skip)))) (.region [.mk none (some 18) (.bin .add (.tmp 8) (.const (.int .i64 1))), .mk none (some 8) (.mv (.tmp 18))] (some [0, 1, 7, 8])))))))) (.seq (.region [.mk none (some 4) (.mv (.const (.int .i64 (-1))))] (some [4])) .ret)))
theorem ok_z35 : compC Tryz.prog an_z35 (Tryz.f67.body.getD .skip) = some ac_z35 := by kernel_rfl
theorem dst_z35 : ac_z35.dstOK Tryz.f67.ntmps (fun i => decide (i < Tryz.f67.ntmps)) = true := by kernel_rfl

/-- slices.Contains[[]int,int] -/
def an_z36 : Ann := ⟨[(0, [0, 1]), (1, [4])], [], []⟩
def ac_z36 : AC := (.seq (.region [.mk none (some 4) (.mv (.const (.bool false)))] (some [0, 1])) (.seq (.region [.mk none (some 5) (.mv (.tmp 0)), .mk none (some 6) (.mv (.tmp 1)), .mk none (some 7) (.call 107 [.tmp 5, .tmp 6]), .mk none (some 8) (.bin .geq (.tmp 7) (.const (.int .i64 0))), .mk none (some 4) (.mv (.tmp 8))] (some [4])) .ret))
theorem ok_z36 : compC Tryz.prog an_z36 (Tryz.f76.body.getD .skip) = some ac_z36 := by kernel_rfl
theorem dst_z36 : ac_z36.dstOK Tryz.f76.ntmps (fun i => decide (i < Tryz.f76.ntmps)) = true := by kernel_rfl

/-- slices.IndexFunc[[]toll/api.Side,toll/api.Side] -/
def an_z37 : Ann := ⟨[(0, [0, 1]), (1, [0, 1, 7, 8]), (2, [0, 1, 7, 8, 9]), (3, [0, 1, 5, 7, 8]), (4, [0, 1, 5, 7, 8, 16]), (5, [4]), (6, [0, 1, 7, 8]), (7, [4])], [], []⟩
def ac_z37 : AC := (.seq (.region [.mk none (some 4) (.mv (.const (.int .i64 0)))] (some [0, 1])) (.seq (.seq (.region [.mk none (some 6) (.mv (.tmp 0)), .mk none (some 7) (.len (.tmp 6) false), .mk none (some 8) (.mv (.const (.int .i64 0)))] (some [0, 1, 7, 8])) (.block 0 (.loop (.seq (.region [.mk none (some 9) (.bin .lss (.tmp 8) (.tmp 7))] (some [0, 1, 7, 8, 9])) (.seq (.cond (.tmp 9) .skip (.exit 0)) (.seq (.block 1 (.seq (.region [.mk none (some 10) (.mv (.tmp 8)), .mk none (some 5) (.mv (.tmp 10))] (some [0, 1, 5, 7, 8])) (.seq (.region [.mk none (some 11) (.mv (.tmp 1)), .mk none (some 12) (.mv (.tmp 0)), .mk none (some 13) (.mv (.tmp 5)), .mk none (some 14) (.idxA 3 (.tmp 12) (.tmp 13)), .mk none (some 15) (.load (some 3) (.tmp 14)), .mk none (some 16) (.callv (.tmp 11) [.tmp 15])] (some [0, 1, 5, 7, 8, 16])) (.cond (.tmp 16) (.seq (.region [.mk none (some 17) (.mv (.tmp 5)), .mk none (some 4) (.mv (.tmp 17))] (some [4])) .ret) .skip)))) (.region [.mk none (some 18) (.bin .add (.tmp 8) (.const (.int .i64 1))), .mk none (some 8) (.mv (.tmp 18))] (some [0, 1, 7, 8])))))))) (.seq (.region [.mk none (some 4) (.mv (.const (.int .i64 (-1))))] (some [4])) .ret)))
theorem ok_z37 : compC Tryz.prog an_z37 (Tryz.f92.body.getD .skip) = some ac_z37 := by kernel_rfl
theorem dst_z37 : ac_z37.dstOK Tryz.f92.ntmps (fun i => decide (i < Tryz.f92.ntmps)) = true := by kernel_rfl

/-- slices.Index[[]int,int] -/
def an_z38 : Ann := ⟨[(0, [0, 1]), (1, [0, 1, 7, 8]), (2, [0, 1, 7, 8, 9]), (3, [0, 1, 5, 7, 8]), (4, [0, 1, 5, 7, 8, 16]), (5, [4]), (6, [0, 1, 7, 8]), (7, [4])], [], []⟩
def ac_z38 : AC := (.seq (.region [.mk none (some 4) (.mv (.const (.int .i64 0)))] (some [0, 1])) (.seq (.seq (.region [.mk none (some 6) (.mv (.tmp 0)), .mk none (some 7) (.len (.tmp 6) false), .mk none (some 8) (.mv (.const (.int .i64 0)))] (some [0, 1, 7, 8])) (.block 0 (.loop (.seq (.region [.mk none (some 9) (.bin .lss (.tmp 8) (.tmp 7))] (some [0, 1, 7, 8, 9])) (.seq (.cond (.tmp 9) .skip (.exit 0)) (.seq (.block 1 (.seq (.region [.mk none (some 10) (.mv (.tmp 8)), .mk none (some 5) (.mv (.tmp 10))] (some [0, 1, 5, 7, 8])) (.seq (.region [.mk none (some 11) (.mv (.tmp 1)), .mk none (some 12) (.mv (.tmp 0)), .mk none (some 13) (.mv (.tmp 5)), .mk none (some 14) (.idxA 1 (.tmp 12) (.tmp 13)), .mk none (some 15) (.load none (.tmp 14)), .mk none (some 16) (.bin .eql (.tmp 11) (.tmp 15))] (some [0, 1, 5, 7, 8, 16])) (.cond (.tmp 16) (.seq (.region [.mk none (some 17) (.mv (.tmp 5)), .mk none (some 4) (.mv (.tmp 17))] (some [4])) .ret) .skip)))) (.region [.mk none (some 18) (.bin .add (.tmp 8) (.const (.int .i64 1))), .mk none (some 8) (.mv (.tmp 18))] (some [0, 1, 7, 8])))))))) (.seq (.region [.mk none (some 4) (.mv (.const (.int .i64 (-1))))] (some [4])) .ret)))
theorem ok_z38 : compC Tryz.prog an_z38 (Tryz.f107.body.getD .skip) = some ac_z38 := by kernel_rfl
theorem dst_z38 : ac_z38.dstOK Tryz.f107.ntmps (fun i => decide (i < Tryz.f107.ntmps)) = true := by kernel_rfl

/-- toll/object.every[int] -/
def an_z39 : Ann := ⟨[(0, [0, 1, 5]), (1, [6])], [], []⟩
def ac_z39 : AC := (.seq (.region [.mk none (some 5) (.box 105 (.tmp 2)), .mk none (some 6) (.mv (.const (.bool false)))] (some [0, 1, 5])) (.seq (.region [.mk none (some 7) (.mv (.tmp 0)), .mk none (some 8) (.len (.tmp 7) false), .mk none (some 9) (.mv (.tmp 1)), .mk none (some 10) (.bin .leq (.tmp 8) (.tmp 9)), .mk none (some 11) (.mv (.tmp 10)), .mk (some (11, true)) (some 12) (.mv (.tmp 0)), .mk (some (11, true)) (some 13) (.mkfn 152 [.tmp 5]), .mk (some (11, true)) (some 14) (.call 151 [.tmp 12, .tmp 13]), .mk (some (11, true)) (some 15) (.un .not (.tmp 14)), .mk none (some 16) (.pick (.tmp 11) (.tmp 15) (.const (.bool false))), .mk none (some 6) (.mv (.tmp 16))] (some [6])) .ret))
theorem ok_z39 : compC Tryz.prog an_z39 (Tryz.f109.body.getD .skip) = some ac_z39 := by kernel_rfl
theorem dst_z39 : ac_z39.dstOK Tryz.f109.ntmps (fun i => decide (i < Tryz.f109.ntmps)) = true := by kernel_rfl

/-- slices.IsSorted[[]int,int] -/
def an_z40 : Ann := ⟨[(0, [0]), (1, [0, 3]), (2, [0, 3, 8]), (3, [0, 3]), (4, [0, 3, 20]), (5, [2]), (6, [2])], [(4, ([0, 0, 3, 7, 0, 0, 32, 112, 240, 511], .take 0 (.take 1 (.take 2 (.take 3 (.take 4 (.take 5 (.take 6 (.take 7 (.take 8 (.alts (.cons 9 true (.done) (.nil)))))))))))))], []⟩
def ac_z40 : AC := (.seq (.region [.mk none (some 2) (.mv (.const (.bool false)))] (some [0])) (.seq (.seq (.region [.mk none (some 4) (.mv (.tmp 0)), .mk none (some 5) (.len (.tmp 4) false), .mk none (some 6) (.bin .sub (.tmp 5) (.const (.int .i64 1))), .mk none (some 3) (.mv (.tmp 6))] (some [0, 3])) (.block 0 (.loop (.seq (.seq (.region [.mk none (some 7) (.mv (.tmp 3)), .mk none (some 8) (.bin .gtr (.tmp 7) (.const (.int .i64 0)))] (some [0, 3, 8])) (.cond (.tmp 8) .skip (.exit 0))) (.seq (.block 1 (.seq (.draw [.mk none (some 11) (.mv (.tmp 0)), .mk none (some 12) (.mv (.tmp 3)), .mk none (some 13) (.idxA 1 (.tmp 11) (.tmp 12)), .mk none (some 14) (.load none (.tmp 13)), .mk none (some 15) (.mv (.tmp 0)), .mk none (some 16) (.mv (.tmp 3)), .mk none (some 17) (.bin .sub (.tmp 16) (.const (.int .i64 1))), .mk none (some 18) (.idxA 1 (.tmp 15) (.tmp 17)), .mk none (some 19) (.load none (.tmp 18)), .mk none (some 20) (.call 153 [.tmp 14, .tmp 19])] [0, 0, 3, 7, 0, 0, 32, 112, 240, 511] (.take 0 (.take 1 (.take 2 (.take 3 (.take 4 (.take 5 (.take 6 (.take 7 (.take 8 (.alts (.cons 9 true .done .nil))))))))))) (some [0, 3, 20])) (.cond (.tmp 20) (.seq (.region [.mk none (some 2) (.mv (.const (.bool false)))] (some [2])) .ret) .skip))) (.region [.mk none (some 9) (.mv (.tmp 3)), .mk none (some 10) (.bin .sub (.tmp 9) (.const (.int .i64 1))), .mk none (some 3) (.mv (.tmp 10))] (some [0, 3]))))))) (.seq (.region [.mk none (some 2) (.mv (.const (.bool true)))] (some [2])) .ret)))
theorem ok_z40 : compC Tryz.prog an_z40 (Tryz.f111.body.getD .skip) = some ac_z40 := by kernel_rfl
theorem dst_z40 : ac_z40.dstOK Tryz.f111.ntmps (fun i => decide (i < Tryz.f111.ntmps)) = true := by kernel_rfl

/-- toll/object.twice[int] -/
def an_z41 : Ann := ⟨[(0, [0, 3]), (1, [0, 3, 7, 8, 9]), (2, [0, 3, 7, 8, 9, 10]), (3, [0, 3, 5, 6, 7, 8, 9]), (4, [0, 3, 7, 8, 9, 18]), (5, [4]), (6, [0, 3, 7, 8, 9]), (7, [4])], [], []⟩
def ac_z41 : AC := (.seq (.region [.mk none (some 3) (.box 153 (.tmp 1)), .mk none (some 4) (.mv (.const (.bool false)))] (some [0, 3])) (.seq (.seq (.region [.mk none (some 7) (.mv (.tmp 0)), .mk none (some 8) (.len (.tmp 7) false), .mk none (some 9) (.mv (.const (.int .i64 0)))] (some [0, 3, 7, 8, 9])) (.block 0 (.loop (.seq (.region [.mk none (some 10) (.bin .lss (.tmp 9) (.tmp 8))] (some [0, 3, 7, 8, 9, 10])) (.seq (.cond (.tmp 10) .skip (.exit 0)) (.seq (.block 1 (.seq (.region [.mk none (some 11) (.mv (.tmp 9)), .mk none (some 12) (.idxA 1 (.tmp 7) (.tmp 9)), .mk none (some 13) (.load none (.tmp 12)), .mk none (some 6) (.alloc 3 [.pd (.raw (.int .i64 0))]), .mk none (some 5) (.mv (.tmp 11)), .mk none none (.store 1 (.tmp 6) (.tmp 13))] (some [0, 3, 5, 6, 7, 8, 9])) (.seq (.region [.mk none (some 14) (.mv (.tmp 0)), .mk none (some 15) (.mv (.tmp 5)), .mk none (some 16) (.slcL 1 (.tmp 14) none (some (.tmp 15))), .mk none (some 17) (.mkfn 154 [.tmp 3, .tmp 6]), .mk none (some 18) (.call 151 [.tmp 16, .tmp 17])] (some [0, 3, 7, 8, 9, 18])) (.cond (.tmp 18) (.seq (.region [.mk none (some 4) (.mv (.const (.bool true)))] (some [4])) .ret) .skip)))) (.region [.mk none (some 19) (.bin .add (.tmp 9) (.const (.int .i64 1))), .mk none (some 9) (.mv (.tmp 19))] (some [0, 3, 7, 8, 9])))))))) (.seq (.region [.mk none (some 4) (.mv (.const (.bool false)))] (some [4])) .ret)))
theorem ok_z41 : compC Tryz.prog an_z41 (Tryz.f112.body.getD .skip) = some ac_z41 := by kernel_rfl
theorem dst_z41 : ac_z41.dstOK Tryz.f112.ntmps (fun i => decide (i < Tryz.f112.ntmps)) = true := by kernel_rfl

/-- toll/object.every[toll/api.Listener] -/
def an_z42 : Ann := ⟨[(0, [0, 1, 5]), (1, [6])], [], []⟩
def ac_z42 : AC := (.seq (.region [.mk none (some 5) (.box 156 (.tmp 2)), .mk none (some 6) (.mv (.const (.bool false)))] (some [0, 1, 5])) (.seq (.region [.mk none (some 7) (.mv (.tmp 0)), .mk none (some 8) (.len (.tmp 7) false), .mk none (some 9) (.mv (.tmp 1)), .mk none (some 10) (.bin .leq (.tmp 8) (.tmp 9)), .mk none (some 11) (.mv (.tmp 10)), .mk (some (11, true)) (some 12) (.mv (.tmp 0)), .mk (some (11, true)) (some 13) (.mkfn 157 [.tmp 5]), .mk (some (11, true)) (some 14) (.call 156 [.tmp 12, .tmp 13]), .mk (some (11, true)) (some 15) (.un .not (.tmp 14)), .mk none (some 16) (.pick (.tmp 11) (.tmp 15) (.const (.bool false))), .mk none (some 6) (.mv (.tmp 16))] (some [6])) .ret))
theorem ok_z42 : compC Tryz.prog an_z42 (Tryz.f116.body.getD .skip) = some ac_z42 := by kernel_rfl
theorem dst_z42 : ac_z42.dstOK Tryz.f116.ntmps (fun i => decide (i < Tryz.f116.ntmps)) = true := by kernel_rfl

/-- toll/object.twice[toll/api.Listener] -/
def an_z43 : Ann := ⟨[(0, [0, 3]), (1, [0, 3, 7, 8, 9]), (2, [0, 3, 7, 8, 9, 10]), (3, [0, 3, 5, 6, 7, 8, 9]), (4, [0, 3, 7, 8, 9, 18]), (5, [4]), (6, [0, 3, 7, 8, 9]), (7, [4])], [], []⟩
def ac_z43 : AC := (.seq (.region [.mk none (some 3) (.box 154 (.tmp 1)), .mk none (some 4) (.mv (.const (.bool false)))] (some [0, 3])) (.seq (.seq (.region [.mk none (some 7) (.mv (.tmp 0)), .mk none (some 8) (.len (.tmp 7) false), .mk none (some 9) (.mv (.const (.int .i64 0)))] (some [0, 3, 7, 8, 9])) (.block 0 (.loop (.seq (.region [.mk none (some 10) (.bin .lss (.tmp 9) (.tmp 8))] (some [0, 3, 7, 8, 9, 10])) (.seq (.cond (.tmp 10) .skip (.exit 0)) (.seq (.block 1 (.seq (.region [.mk none (some 11) (.mv (.tmp 9)), .mk none (some 12) (.idxA 9 (.tmp 7) (.tmp 9)), .mk none (some 13) (.load (some 9) (.tmp 12)), .mk none (some 6) (.alloc 82 [.pd (.raw (.string ⟨#[]⟩)), .pd (.raw (.int .i64 0)), .pd (.raw (.bool false)), .pd (.raw (.string ⟨#[]⟩)), .pd (.raw (.int .i64 0)), .pd (.raw (.string ⟨#[]⟩)), .pd (.raw (.string ⟨#[]⟩)), .pd (.raw (.int .i64 0)), .nils]), .mk none (some 5) (.mv (.tmp 11)), .mk none none (.store 9 (.tmp 6) (.tmp 13))] (some [0, 3, 5, 6, 7, 8, 9])) (.seq (.region [.mk none (some 14) (.mv (.tmp 0)), .mk none (some 15) (.mv (.tmp 5)), .mk none (some 16) (.slcL 9 (.tmp 14) none (some (.tmp 15))), .mk none (some 17) (.mkfn 160 [.tmp 3, .tmp 6]), .mk none (some 18) (.call 156 [.tmp 16, .tmp 17])] (some [0, 3, 7, 8, 9, 18])) (.cond (.tmp 18) (.seq (.region [.mk none (some 4) (.mv (.const (.bool true)))] (some [4])) .ret) .skip)))) (.region [.mk none (some 19) (.bin .add (.tmp 9) (.const (.int .i64 1))), .mk none (some 9) (.mv (.tmp 19))] (some [0, 3, 7, 8, 9])))))))) (.seq (.region [.mk none (some 4) (.mv (.const (.bool false)))] (some [4])) .ret)))
theorem ok_z43 : compC Tryz.prog an_z43 (Tryz.f118.body.getD .skip) = some ac_z43 := by kernel_rfl
theorem dst_z43 : ac_z43.dstOK Tryz.f118.ntmps (fun i => decide (i < Tryz.f118.ntmps)) = true := by kernel_rfl

/-- toll/object.twice[toll/api.Parent] -/
def an_z44 : Ann := ⟨[(0, [0, 3]), (1, [0, 3, 7, 8, 9]), (2, [0, 3, 7, 8, 9, 10]), (3, [0, 3, 5, 6, 7, 8, 9]), (4, [0, 3, 7, 8, 9, 18]), (5, [4]), (6, [0, 3, 7, 8, 9]), (7, [4])], [], []⟩
def ac_z44 : AC := (.seq (.region [.mk none (some 3) (.box 159 (.tmp 1)), .mk none (some 4) (.mv (.const (.bool false)))] (some [0, 3])) (.seq (.seq (.region [.mk none (some 7) (.mv (.tmp 0)), .mk none (some 8) (.len (.tmp 7) false), .mk none (some 9) (.mv (.const (.int .i64 0)))] (some [0, 3, 7, 8, 9])) (.block 0 (.loop (.seq (.region [.mk none (some 10) (.bin .lss (.tmp 9) (.tmp 8))] (some [0, 3, 7, 8, 9, 10])) (.seq (.cond (.tmp 10) .skip (.exit 0)) (.seq (.block 1 (.seq (.region [.mk none (some 11) (.mv (.tmp 9)), .mk none (some 12) (.idxA 4 (.tmp 7) (.tmp 9)), .mk none (some 13) (.load (some 4) (.tmp 12)), .mk none (some 6) (.alloc 96 [.pd (.raw (.string ⟨#[]⟩)), .pd (.raw (.string ⟨#[]⟩)), .pd (.raw (.string ⟨#[]⟩)), .pd (.raw (.int .i64 0))]), .mk none (some 5) (.mv (.tmp 11)), .mk none none (.store 4 (.tmp 6) (.tmp 13))] (some [0, 3, 5, 6, 7, 8, 9])) (.seq (.region [.mk none (some 14) (.mv (.tmp 0)), .mk none (some 15) (.mv (.tmp 5)), .mk none (some 16) (.slcL 4 (.tmp 14) none (some (.tmp 15))), .mk none (some 17) (.mkfn 162 [.tmp 3, .tmp 6]), .mk none (some 18) (.call 161 [.tmp 16, .tmp 17])] (some [0, 3, 7, 8, 9, 18])) (.cond (.tmp 18) (.seq (.region [.mk none (some 4) (.mv (.const (.bool true)))] (some [4])) .ret) .skip)))) (.region [.mk none (some 19) (.bin .add (.tmp 9) (.const (.int .i64 1))), .mk none (some 9) (.mv (.tmp 19))] (some [0, 3, 7, 8, 9])))))))) (.seq (.region [.mk none (some 4) (.mv (.const (.bool false)))] (some [4])) .ret)))
theorem ok_z44 : compC Tryz.prog an_z44 (Tryz.f119.body.getD .skip) = some ac_z44 := by kernel_rfl
theorem dst_z44 : ac_z44.dstOK Tryz.f119.ntmps (fun i => decide (i < Tryz.f119.ntmps)) = true := by kernel_rfl

/-- toll/object.twice[string] -/
def an_z45 : Ann := ⟨[(0, [0, 3]), (1, [0, 3, 7, 8, 9]), (2, [0, 3, 7, 8, 9, 10]), (3, [0, 3, 5, 6, 7, 8, 9]), (4, [0, 3, 7, 8, 9, 18]), (5, [4]), (6, [0, 3, 7, 8, 9]), (7, [4])], [], []⟩
def ac_z45 : AC := (.seq (.region [.mk none (some 3) (.box 161 (.tmp 1)), .mk none (some 4) (.mv (.const (.bool false)))] (some [0, 3])) (.seq (.seq (.region [.mk none (some 7) (.mv (.tmp 0)), .mk none (some 8) (.len (.tmp 7) false), .mk none (some 9) (.mv (.const (.int .i64 0)))] (some [0, 3, 7, 8, 9])) (.block 0 (.loop (.seq (.region [.mk none (some 10) (.bin .lss (.tmp 9) (.tmp 8))] (some [0, 3, 7, 8, 9, 10])) (.seq (.cond (.tmp 10) .skip (.exit 0)) (.seq (.block 1 (.seq (.region [.mk none (some 11) (.mv (.tmp 9)), .mk none (some 12) (.idxA 1 (.tmp 7) (.tmp 9)), .mk none (some 13) (.load none (.tmp 12)), .mk none (some 6) (.alloc 9 [.pd (.raw (.string ⟨#[]⟩))]), .mk none (some 5) (.mv (.tmp 11)), .mk none none (.store 1 (.tmp 6) (.tmp 13))] (some [0, 3, 5, 6, 7, 8, 9])) (.seq (.region [.mk none (some 14) (.mv (.tmp 0)), .mk none (some 15) (.mv (.tmp 5)), .mk none (some 16) (.slcL 1 (.tmp 14) none (some (.tmp 15))), .mk none (some 17) (.mkfn 164 [.tmp 3, .tmp 6]), .mk none (some 18) (.call 163 [.tmp 16, .tmp 17])] (some [0, 3, 7, 8, 9, 18])) (.cond (.tmp 18) (.seq (.region [.mk none (some 4) (.mv (.const (.bool true)))] (some [4])) .ret) .skip)))) (.region [.mk none (some 19) (.bin .add (.tmp 9) (.const (.int .i64 1))), .mk none (some 9) (.mv (.tmp 19))] (some [0, 3, 7, 8, 9])))))))) (.seq (.region [.mk none (some 4) (.mv (.const (.bool false)))] (some [4])) .ret)))
theorem ok_z45 : compC Tryz.prog an_z45 (Tryz.f121.body.getD .skip) = some ac_z45 := by kernel_rfl
theorem dst_z45 : ac_z45.dstOK Tryz.f121.ntmps (fun i => decide (i < Tryz.f121.ntmps)) = true := by kernel_rfl

/-- toll/object.every[toll/api.Parent] -/
def an_z46 : Ann := ⟨[(0, [0, 1, 5]), (1, [6])], [], []⟩
def ac_z46 : AC := (.seq (.region [.mk none (some 5) (.box 163 (.tmp 2)), .mk none (some 6) (.mv (.const (.bool false)))] (some [0, 1, 5])) (.seq (.region [.mk none (some 7) (.mv (.tmp 0)), .mk none (some 8) (.len (.tmp 7) false), .mk none (some 9) (.mv (.tmp 1)), .mk none (some 10) (.bin .leq (.tmp 8) (.tmp 9)), .mk none (some 11) (.mv (.tmp 10)), .mk (some (11, true)) (some 12) (.mv (.tmp 0)), .mk (some (11, true)) (some 13) (.mkfn 166 [.tmp 5]), .mk (some (11, true)) (some 14) (.call 161 [.tmp 12, .tmp 13]), .mk (some (11, true)) (some 15) (.un .not (.tmp 14)), .mk none (some 16) (.pick (.tmp 11) (.tmp 15) (.const (.bool false))), .mk none (some 6) (.mv (.tmp 16))] (some [6])) .ret))
theorem ok_z46 : compC Tryz.prog an_z46 (Tryz.f125.body.getD .skip) = some ac_z46 := by kernel_rfl
theorem dst_z46 : ac_z46.dstOK Tryz.f125.ntmps (fun i => decide (i < Tryz.f125.ntmps)) = true := by kernel_rfl

/-- toll/object.every[string] -/
def an_z47 : Ann := ⟨[(0, [0, 1, 5]), (1, [6])], [], []⟩
def ac_z47 : AC := (.seq (.region [.mk none (some 5) (.box 141 (.tmp 2)), .mk none (some 6) (.mv (.const (.bool false)))] (some [0, 1, 5])) (.seq (.region [.mk none (some 7) (.mv (.tmp 0)), .mk none (some 8) (.len (.tmp 7) false), .mk none (some 9) (.mv (.tmp 1)), .mk none (some 10) (.bin .leq (.tmp 8) (.tmp 9)), .mk none (some 11) (.mv (.tmp 10)), .mk (some (11, true)) (some 12) (.mv (.tmp 0)), .mk (some (11, true)) (some 13) (.mkfn 167 [.tmp 5]), .mk (some (11, true)) (some 14) (.call 163 [.tmp 12, .tmp 13]), .mk (some (11, true)) (some 15) (.un .not (.tmp 14)), .mk none (some 16) (.pick (.tmp 11) (.tmp 15) (.const (.bool false))), .mk none (some 6) (.mv (.tmp 16))] (some [6])) .ret))
theorem ok_z47 : compC Tryz.prog an_z47 (Tryz.f127.body.getD .skip) = some ac_z47 := by kernel_rfl
theorem dst_z47 : ac_z47.dstOK Tryz.f127.ntmps (fun i => decide (i < Tryz.f127.ntmps)) = true := by kernel_rfl

/-- toll/object.every[toll/api.Rule] -/
def an_z48 : Ann := ⟨[(0, [0, 1, 5]), (1, [6])], [], []⟩
def ac_z48 : AC := (.seq (.region [.mk none (some 5) (.box 143 (.tmp 2)), .mk none (some 6) (.mv (.const (.bool false)))] (some [0, 1, 5])) (.seq (.region [.mk none (some 7) (.mv (.tmp 0)), .mk none (some 8) (.len (.tmp 7) false), .mk none (some 9) (.mv (.tmp 1)), .mk none (some 10) (.bin .leq (.tmp 8) (.tmp 9)), .mk none (some 11) (.mv (.tmp 10)), .mk (some (11, true)) (some 12) (.mv (.tmp 0)), .mk (some (11, true)) (some 13) (.mkfn 169 [.tmp 5]), .mk (some (11, true)) (some 14) (.call 168 [.tmp 12, .tmp 13]), .mk (some (11, true)) (some 15) (.un .not (.tmp 14)), .mk none (some 16) (.pick (.tmp 11) (.tmp 15) (.const (.bool false))), .mk none (some 6) (.mv (.tmp 16))] (some [6])) .ret))
theorem ok_z48 : compC Tryz.prog an_z48 (Tryz.f128.body.getD .skip) = some ac_z48 := by kernel_rfl
theorem dst_z48 : ac_z48.dstOK Tryz.f128.ntmps (fun i => decide (i < Tryz.f128.ntmps)) = true := by kernel_rfl

/-- toll/object.every[toll/api.Side] -/
def an_z49 : Ann := ⟨[(0, [0, 1, 5]), (1, [6])], [], []⟩
def ac_z49 : AC := (.seq (.region [.mk none (some 5) (.box 89 (.tmp 2)), .mk none (some 6) (.mv (.const (.bool false)))] (some [0, 1, 5])) (.seq (.region [.mk none (some 7) (.mv (.tmp 0)), .mk none (some 8) (.len (.tmp 7) false), .mk none (some 9) (.mv (.tmp 1)), .mk none (some 10) (.bin .leq (.tmp 8) (.tmp 9)), .mk none (some 11) (.mv (.tmp 10)), .mk (some (11, true)) (some 12) (.mv (.tmp 0)), .mk (some (11, true)) (some 13) (.mkfn 178 [.tmp 5]), .mk (some (11, true)) (some 14) (.call 53 [.tmp 12, .tmp 13]), .mk (some (11, true)) (some 15) (.un .not (.tmp 14)), .mk none (some 16) (.pick (.tmp 11) (.tmp 15) (.const (.bool false))), .mk none (some 6) (.mv (.tmp 16))] (some [6])) .ret))
theorem ok_z49 : compC Tryz.prog an_z49 (Tryz.f134.body.getD .skip) = some ac_z49 := by kernel_rfl
theorem dst_z49 : ac_z49.dstOK Tryz.f134.ntmps (fun i => decide (i < Tryz.f134.ntmps)) = true := by kernel_rfl

/-- slices.Equal[[]toll/api.Pair,toll/api.Pair] -/
def an_z50 : Ann := ⟨[(0, [0, 1]), (1, [0, 1, 10]), (2, [4]), (3, [0, 1, 12, 13]), (4, [0, 1, 12, 13, 14]), (5, [0, 1, 5, 12, 13]), (6, [0, 1, 12, 13, 24]), (7, [4]), (8, [0, 1, 12, 13]), (9, [4])], [(6, ([0, 0, 3, 7, 0, 0, 48, 112, 255], .take 0 (.take 1 (.take 2 (.take 3 (.take 4 (.take 5 (.take 6 (.take 7 (.take 8 (.done)))))))))))], []⟩
def ac_z50 : AC := (.seq (.region [.mk none (some 4) (.mv (.const (.bool false)))] (some [0, 1])) (.seq (.seq (.region [.mk none (some 6) (.mv (.tmp 0)), .mk none (some 7) (.len (.tmp 6) false), .mk none (some 8) (.mv (.tmp 1)), .mk none (some 9) (.len (.tmp 8) false), .mk none (some 10) (.bin .neq (.tmp 7) (.tmp 9))] (some [0, 1, 10])) (.cond (.tmp 10) (.seq (.region [.mk none (some 4) (.mv (.const (.bool false)))] (some [4])) .ret) .skip)) (.seq (.seq (.region [.mk none (some 11) (.mv (.tmp 0)), .mk none (some 12) (.len (.tmp 11) false), .mk none (some 13) (.mv (.const (.int .i64 0)))] (some [0, 1, 12, 13])) (.block 0 (.loop (.seq (.region [.mk none (some 14) (.bin .lss (.tmp 13) (.tmp 12))] (some [0, 1, 12, 13, 14])) (.seq (.cond (.tmp 14) .skip (.exit 0)) (.seq (.block 1 (.seq (.region [.mk none (some 15) (.mv (.tmp 13)), .mk none (some 5) (.mv (.tmp 15))] (some [0, 1, 5, 12, 13])) (.seq (.draw [.mk none (some 16) (.mv (.tmp 0)), .mk none (some 17) (.mv (.tmp 5)), .mk none (some 18) (.idxA 2 (.tmp 16) (.tmp 17)), .mk none (some 19) (.load (some 2) (.tmp 18)), .mk none (some 20) (.mv (.tmp 1)), .mk none (some 21) (.mv (.tmp 5)), .mk none (some 22) (.idxA 2 (.tmp 20) (.tmp 21)), .mk none (some 23) (.load (some 2) (.tmp 22)), .mk none (some 24) (.eqs true [.str, .str] (.tmp 19) (.tmp 23))] [0, 0, 3, 7, 0, 0, 48, 112, 255] (.take 0 (.take 1 (.take 2 (.take 3 (.take 4 (.take 5 (.take 6 (.take 7 (.take 8 .done))))))))) (some [0, 1, 12, 13, 24])) (.cond (.tmp 24) (.seq (.region [.mk none (some 4) (.mv (.const (.bool false)))] (some [4])) .ret) .skip)))) (.region [.mk none (some 25) (.bin .add (.tmp 13) (.const (.int .i64 1))), .mk none (some 13) (.mv (.tmp 25))] (some [0, 1, 12, 13])))))))) (.seq (.region [.mk none (some 4) (.mv (.const (.bool true)))] (some [4])) .ret))))
theorem ok_z50 : compC Tryz.prog an_z50 (Tryz.f135.body.getD .skip) = some ac_z50 := by kernel_rfl
theorem dst_z50 : ac_z50.dstOK Tryz.f135.ntmps (fun i => decide (i < Tryz.f135.ntmps)) = true := by kernel_rfl

/-- slices.Equal[[]int,int] -/
def an_z51 : Ann := ⟨[(0, [0, 1]), (1, [0, 1, 10]), (2, [4]), (3, [0, 1, 12, 13]), (4, [0, 1, 12, 13, 14]), (5, [0, 1, 5, 12, 13]), (6, [0, 1, 12, 13, 24]), (7, [4]), (8, [0, 1, 12, 13]), (9, [4])], [(6, ([0, 0, 3, 7, 0, 0, 48, 112, 255], .take 0 (.take 1 (.take 2 (.take 3 (.take 4 (.take 5 (.take 6 (.take 7 (.take 8 (.done)))))))))))], []⟩
def ac_z51 : AC := (.seq (.region [.mk none (some 4) (.mv (.const (.bool false)))] (some [0, 1])) (.seq (.seq (.region [.mk none (some 6) (.mv (.tmp 0)), .mk none (some 7) (.len (.tmp 6) false), .mk none (some 8) (.mv (.tmp 1)), .mk none (some 9) (.len (.tmp 8) false), .mk none (some 10) (.bin .neq (.tmp 7) (.tmp 9))] (some [0, 1, 10])) (.cond (.tmp 10) (.seq (.region [.mk none (some 4) (.mv (.const (.bool false)))] (some [4])) .ret) .skip)) (.seq (.seq (.region [.mk none (some 11) (.mv (.tmp 0)), .mk none (some 12) (.len (.tmp 11) false), .mk none (some 13) (.mv (.const (.int .i64 0)))] (some [0, 1, 12, 13])) (.block 0 (.loop (.seq (.region [.mk none (some 14) (.bin .lss (.tmp 13) (.tmp 12))] (some [0, 1, 12, 13, 14])) (.seq (.cond (.tmp 14) .skip (.exit 0)) (.seq (.block 1 (.seq (.region [.mk none (some 15) (.mv (.tmp 13)), .mk none (some 5) (.mv (.tmp 15))] (some [0, 1, 5, 12, 13])) (.seq (.draw [.mk none (some 16) (.mv (.tmp 0)), .mk none (some 17) (.mv (.tmp 5)), .mk none (some 18) (.idxA 1 (.tmp 16) (.tmp 17)), .mk none (some 19) (.load none (.tmp 18)), .mk none (some 20) (.mv (.tmp 1)), .mk none (some 21) (.mv (.tmp 5)), .mk none (some 22) (.idxA 1 (.tmp 20) (.tmp 21)), .mk none (some 23) (.load none (.tmp 22)), .mk none (some 24) (.bin .neq (.tmp 19) (.tmp 23))] [0, 0, 3, 7, 0, 0, 48, 112, 255] (.take 0 (.take 1 (.take 2 (.take 3 (.take 4 (.take 5 (.take 6 (.take 7 (.take 8 .done))))))))) (some [0, 1, 12, 13, 24])) (.cond (.tmp 24) (.seq (.region [.mk none (some 4) (.mv (.const (.bool false)))] (some [4])) .ret) .skip)))) (.region [.mk none (some 25) (.bin .add (.tmp 13) (.const (.int .i64 1))), .mk none (some 13) (.mv (.tmp 25))] (some [0, 1, 12, 13])))))))) (.seq (.region [.mk none (some 4) (.mv (.const (.bool true)))] (some [4])) .ret))))
theorem ok_z51 : compC Tryz.prog an_z51 (Tryz.f136.body.getD .skip) = some ac_z51 := by kernel_rfl
theorem dst_z51 : ac_z51.dstOK Tryz.f136.ntmps (fun i => decide (i < Tryz.f136.ntmps)) = true := by kernel_rfl

/-- slices.Equal[[]string,string] -/
def an_z52 : Ann := ⟨[(0, [0, 1]), (1, [0, 1, 10]), (2, [4]), (3, [0, 1, 12, 13]), (4, [0, 1, 12, 13, 14]), (5, [0, 1, 5, 12, 13]), (6, [0, 1, 12, 13, 24]), (7, [4]), (8, [0, 1, 12, 13]), (9, [4])], [(6, ([0, 0, 3, 7, 0, 0, 48, 112, 255], .take 0 (.take 1 (.take 2 (.take 3 (.take 4 (.take 5 (.take 6 (.take 7 (.take 8 (.done)))))))))))], []⟩
def ac_z52 : AC := (.seq (.region [.mk none (some 4) (.mv (.const (.bool false)))] (some [0, 1])) (.seq (.seq (.region [.mk none (some 6) (.mv (.tmp 0)), .mk none (some 7) (.len (.tmp 6) false), .mk none (some 8) (.mv (.tmp 1)), .mk none (some 9) (.len (.tmp 8) false), .mk none (some 10) (.bin .neq (.tmp 7) (.tmp 9))] (some [0, 1, 10])) (.cond (.tmp 10) (.seq (.region [.mk none (some 4) (.mv (.const (.bool false)))] (some [4])) .ret) .skip)) (.seq (.seq (.region [.mk none (some 11) (.mv (.tmp 0)), .mk none (some 12) (.len (.tmp 11) false), .mk none (some 13) (.mv (.const (.int .i64 0)))] (some [0, 1, 12, 13])) (.block 0 (.loop (.seq (.region [.mk none (some 14) (.bin .lss (.tmp 13) (.tmp 12))] (some [0, 1, 12, 13, 14])) (.seq (.cond (.tmp 14) .skip (.exit 0)) (.seq (.block 1 (.seq (.region [.mk none (some 15) (.mv (.tmp 13)), .mk none (some 5) (.mv (.tmp 15))] (some [0, 1, 5, 12, 13])) (.seq (.draw [.mk none (some 16) (.mv (.tmp 0)), .mk none (some 17) (.mv (.tmp 5)), .mk none (some 18) (.idxA 1 (.tmp 16) (.tmp 17)), .mk none (some 19) (.load none (.tmp 18)), .mk none (some 20) (.mv (.tmp 1)), .mk none (some 21) (.mv (.tmp 5)), .mk none (some 22) (.idxA 1 (.tmp 20) (.tmp 21)), .mk none (some 23) (.load none (.tmp 22)), .mk none (some 24) (.bin .neq (.tmp 19) (.tmp 23))] [0, 0, 3, 7, 0, 0, 48, 112, 255] (.take 0 (.take 1 (.take 2 (.take 3 (.take 4 (.take 5 (.take 6 (.take 7 (.take 8 .done))))))))) (some [0, 1, 12, 13, 24])) (.cond (.tmp 24) (.seq (.region [.mk none (some 4) (.mv (.const (.bool false)))] (some [4])) .ret) .skip)))) (.region [.mk none (some 25) (.bin .add (.tmp 13) (.const (.int .i64 1))), .mk none (some 13) (.mv (.tmp 25))] (some [0, 1, 12, 13])))))))) (.seq (.region [.mk none (some 4) (.mv (.const (.bool true)))] (some [4])) .ret))))
theorem ok_z52 : compC Tryz.prog an_z52 (Tryz.f137.body.getD .skip) = some ac_z52 := by kernel_rfl
theorem dst_z52 : ac_z52.dstOK Tryz.f137.ntmps (fun i => decide (i < Tryz.f137.ntmps)) = true := by kernel_rfl

/-- slices.Equal[[]toll/api.Parent,toll/api.Parent] -/
def an_z53 : Ann := ⟨[(0, [0, 1]), (1, [0, 1, 10]), (2, [4]), (3, [0, 1, 12, 13]), (4, [0, 1, 12, 13, 14]), (5, [0, 1, 5, 12, 13]), (6, [0, 1, 12, 13, 24]), (7, [4]), (8, [0, 1, 12, 13]), (9, [4])], [(6, ([0, 0, 3, 7, 0, 0, 48, 112, 255], .take 0 (.take 1 (.take 2 (.take 3 (.take 4 (.take 5 (.take 6 (.take 7 (.take 8 (.done)))))))))))], []⟩
def ac_z53 : AC := (.seq (.region [.mk none (some 4) (.mv (.const (.bool false)))] (some [0, 1])) (.seq (.seq (.region [.mk none (some 6) (.mv (.tmp 0)), .mk none (some 7) (.len (.tmp 6) false), .mk none (some 8) (.mv (.tmp 1)), .mk none (some 9) (.len (.tmp 8) false), .mk none (some 10) (.bin .neq (.tmp 7) (.tmp 9))] (some [0, 1, 10])) (.cond (.tmp 10) (.seq (.region [.mk none (some 4) (.mv (.const (.bool false)))] (some [4])) .ret) .skip)) (.seq (.seq (.region [.mk none (some 11) (.mv (.tmp 0)), .mk none (some 12) (.len (.tmp 11) false), .mk none (some 13) (.mv (.const (.int .i64 0)))] (some [0, 1, 12, 13])) (.block 0 (.loop (.seq (.region [.mk none (some 14) (.bin .lss (.tmp 13) (.tmp 12))] (some [0, 1, 12, 13, 14])) (.seq (.cond (.tmp 14) .skip (.exit 0)) (.seq (.block 1 (.seq (.region [.mk none (some 15) (.mv (.tmp 13)), .mk none (some 5) (.mv (.tmp 15))] (some [0, 1, 5, 12, 13])) (.seq (.draw [.mk none (some 16) (.mv (.tmp 0)), .mk none (some 17) (.mv (.tmp 5)), .mk none (some 18) (.idxA 4 (.tmp 16) (.tmp 17)), .mk none (some 19) (.load (some 4) (.tmp 18)), .mk none (some 20) (.mv (.tmp 1)), .mk none (some 21) (.mv (.tmp 5)), .mk none (some 22) (.idxA 4 (.tmp 20) (.tmp 21)), .mk none (some 23) (.load (some 4) (.tmp 22)), .mk none (some 24) (.eqs true [.str, .str, .str, .int] (.tmp 19) (.tmp 23))] [0, 0, 3, 7, 0, 0, 48, 112, 255] (.take 0 (.take 1 (.take 2 (.take 3 (.take 4 (.take 5 (.take 6 (.take 7 (.take 8 .done))))))))) (some [0, 1, 12, 13, 24])) (.cond (.tmp 24) (.seq (.region [.mk none (some 4) (.mv (.const (.bool false)))] (some [4])) .ret) .skip)))) (.region [.mk none (some 25) (.bin .add (.tmp 13) (.const (.int .i64 1))), .mk none (some 13) (.mv (.tmp 25))] (some [0, 1, 12, 13])))))))) (.seq (.region [.mk none (some 4) (.mv (.const (.bool true)))] (some [4])) .ret))))
theorem ok_z53 : compC Tryz.prog an_z53 (Tryz.f138.body.getD .skip) = some ac_z53 := by kernel_rfl
theorem dst_z53 : ac_z53.dstOK Tryz.f138.ntmps (fun i => decide (i < Tryz.f138.ntmps)) = true := by kernel_rfl

/-- slices.Equal[[]toll/api.Side,toll/api.Side] -/
def an_z54 : Ann := ⟨[(0, [0, 1]), (1, [0, 1, 10]), (2, [4]), (3, [0, 1, 12, 13]), (4, [0, 1, 12, 13, 14]), (5, [0, 1, 5, 12, 13]), (6, [0, 1, 12, 13, 24]), (7, [4]), (8, [0, 1, 12, 13]), (9, [4])], [(6, ([0, 0, 3, 7, 0, 0, 48, 112, 255], .take 0 (.take 1 (.take 2 (.take 3 (.take 4 (.take 5 (.take 6 (.take 7 (.take 8 (.done)))))))))))], []⟩
def ac_z54 : AC := (.seq (.region [.mk none (some 4) (.mv (.const (.bool false)))] (some [0, 1])) (.seq (.seq (.region [.mk none (some 6) (.mv (.tmp 0)), .mk none (some 7) (.len (.tmp 6) false), .mk none (some 8) (.mv (.tmp 1)), .mk none (some 9) (.len (.tmp 8) false), .mk none (some 10) (.bin .neq (.tmp 7) (.tmp 9))] (some [0, 1, 10])) (.cond (.tmp 10) (.seq (.region [.mk none (some 4) (.mv (.const (.bool false)))] (some [4])) .ret) .skip)) (.seq (.seq (.region [.mk none (some 11) (.mv (.tmp 0)), .mk none (some 12) (.len (.tmp 11) false), .mk none (some 13) (.mv (.const (.int .i64 0)))] (some [0, 1, 12, 13])) (.block 0 (.loop (.seq (.region [.mk none (some 14) (.bin .lss (.tmp 13) (.tmp 12))] (some [0, 1, 12, 13, 14])) (.seq (.cond (.tmp 14) .skip (.exit 0)) (.seq (.block 1 (.seq (.region [.mk none (some 15) (.mv (.tmp 13)), .mk none (some 5) (.mv (.tmp 15))] (some [0, 1, 5, 12, 13])) (.seq (.draw [.mk none (some 16) (.mv (.tmp 0)), .mk none (some 17) (.mv (.tmp 5)), .mk none (some 18) (.idxA 3 (.tmp 16) (.tmp 17)), .mk none (some 19) (.load (some 3) (.tmp 18)), .mk none (some 20) (.mv (.tmp 1)), .mk none (some 21) (.mv (.tmp 5)), .mk none (some 22) (.idxA 3 (.tmp 20) (.tmp 21)), .mk none (some 23) (.load (some 3) (.tmp 22)), .mk none (some 24) (.eqs true [.int, .str, .str] (.tmp 19) (.tmp 23))] [0, 0, 3, 7, 0, 0, 48, 112, 255] (.take 0 (.take 1 (.take 2 (.take 3 (.take 4 (.take 5 (.take 6 (.take 7 (.take 8 .done))))))))) (some [0, 1, 12, 13, 24])) (.cond (.tmp 24) (.seq (.region [.mk none (some 4) (.mv (.const (.bool false)))] (some [4])) .ret) .skip)))) (.region [.mk none (some 25) (.bin .add (.tmp 13) (.const (.int .i64 1))), .mk none (some 13) (.mv (.tmp 25))] (some [0, 1, 12, 13])))))))) (.seq (.region [.mk none (some 4) (.mv (.const (.bool true)))] (some [4])) .ret))))
theorem ok_z54 : compC Tryz.prog an_z54 (Tryz.f139.body.getD .skip) = some ac_z54 := by kernel_rfl
theorem dst_z54 : ac_z54.dstOK Tryz.f139.ntmps (fun i => decide (i < Tryz.f139.ntmps)) = true := by kernel_rfl

/-- slices.EqualFunc[[]toll/api.Listener,[]toll/api.Listener,toll/api.Listener,toll/api.Listener] -/
def an_z55 : Ann := ⟨[(0, [0, 1, 2]), (1, [0, 1, 2, 14]), (2, [6]), (3, [1, 2, 15, 16, 17]), (4, [1, 2, 15, 16, 17, 18]), (5, [1, 2, 7, 8, 15, 16, 17]), (6, [1, 2, 8, 9, 15, 16, 17]), (7, [1, 2, 15, 16, 17, 30]), (8, [6]), (9, [1, 2, 15, 16, 17]), (10, [6])], [], []⟩
def ac_z55 : AC := (.seq (.region [.mk none (some 6) (.mv (.const (.bool false)))] (some [0, 1, 2])) (.seq (.seq (.region [.mk none (some 10) (.mv (.tmp 0)), .mk none (some 11) (.len (.tmp 10) false), .mk none (some 12) (.mv (.tmp 1)), .mk none (some 13) (.len (.tmp 12) false), .mk none (some 14) (.bin .neq (.tmp 11) (.tmp 13))] (some [0, 1, 2, 14])) (.cond (.tmp 14) (.seq (.region [.mk none (some 6) (.mv (.const (.bool false)))] (some [6])) .ret) .skip)) (.seq (.seq (.region [.mk none (some 15) (.mv (.tmp 0)), .mk none (some 16) (.len (.tmp 15) false), .mk none (some 17) (.mv (.const (.int .i64 0)))] (some [1, 2, 15, 16, 17])) (.block 0 (.loop (.seq (.region [.mk none (some 18) (.bin .lss (.tmp 17) (.tmp 16))] (some [1, 2, 15, 16, 17, 18])) (.seq (.cond (.tmp 18) .skip (.exit 0)) (.seq (.block 1 (.seq (.region [.mk none (some 19) (.mv (.tmp 17)), .mk none (some 20) (.idxA 9 (.tmp 15) (.tmp 17)), .mk none (some 21) (.load (some 9) (.tmp 20)), .mk none (some 8) (.alloc 82 [.pd (.raw (.string ⟨#[]⟩)), .pd (.raw (.int .i64 0)), .pd (.raw (.bool false)), .pd (.raw (.string ⟨#[]⟩)), .pd (.raw (.int .i64 0)), .pd (.raw (.string ⟨#[]⟩)), .pd (.raw (.string ⟨#[]⟩)), .pd (.raw (.int .i64 0)), .nils]), .mk none (some 7) (.mv (.tmp 19)), .mk none none (.store 9 (.tmp 8) (.tmp 21))] (some [1, 2, 7, 8, 15, 16, 17])) (.seq (.region [.mk none (some 22) (.mv (.tmp 1)), .mk none (some 23) (.mv (.tmp 7)), .mk none (some 24) (.idxA 9 (.tmp 22) (.tmp 23)), .mk none (some 25) (.load (some 9) (.tmp 24)), .mk none (some 9) (.alloc 82 [.pd (.raw (.string ⟨#[]⟩)), .pd (.raw (.int .i64 0)), .pd (.raw (.bool false)), .pd (.raw (.string ⟨#[]⟩)), .pd (.raw (.int .i64 0)), .pd (.raw (.string ⟨#[]⟩)), .pd (.raw (.string ⟨#[]⟩)), .pd (.raw (.int .i64 0)), .nils]), .mk none none (.store 9 (.tmp 9) (.tmp 25))] (some [1, 2, 8, 9, 15, 16, 17])) (.seq (.region [.mk none (some 26) (.mv (.tmp 2)), .mk none (some 27) (.load (some 9) (.tmp 8)), .mk none (some 28) (.load (some 9) (.tmp 9)), .mk none (some 29) (.callv (.tmp 26) [.tmp 27, .tmp 28]), .mk none (some 30) (.un .not (.tmp 29))] (some [1, 2, 15, 16, 17, 30])) (.cond (.tmp 30) (.seq (.region [.mk none (some 6) (.mv (.const (.bool false)))] (some [6])) .ret) .skip))))) (.region [.mk none (some 31) (.bin .add (.tmp 17) (.const (.int .i64 1))), .mk none (some 17) (.mv (.tmp 31))] (some [1, 2, 15, 16, 17])))))))) (.seq (.region [.mk none (some 6) (.mv (.const (.bool true)))] (some [6])) .ret))))
theorem ok_z55 : compC Tryz.prog an_z55 (Tryz.f140.body.getD .skip) = some ac_z55 := by kernel_rfl
theorem dst_z55 : ac_z55.dstOK Tryz.f140.ntmps (fun i => decide (i < Tryz.f140.ntmps)) = true := by kernel_rfl

/-- slices.EqualFunc[[]toll/api.Rule,[]toll/api.Rule,toll/api.Rule,toll/api.Rule] -/
def an_z56 : Ann := ⟨[(0, [0, 1, 2]), (1, [0, 1, 2, 14]), (2, [6]), (3, [1, 2, 15, 16, 17]), (4, [1, 2, 15, 16, 17, 18]), (5, [1, 2, 7, 8, 15, 16, 17]), (6, [1, 2, 8, 9, 15, 16, 17]), (7, [1, 2, 15, 16, 17, 30]), (8, [6]), (9, [1, 2, 15, 16, 17]), (10, [6])], [], []⟩
def ac_z56 : AC := (.seq (.region [.mk none (some 6) (.mv (.const (.bool false)))] (some [0, 1, 2])) (.seq (.seq (.region [.mk none (some 10) (.mv (.tmp 0)), .mk none (some 11) (.len (.tmp 10) false), .mk none (some 12) (.mv (.tmp 1)), .mk none (some 13) (.len (.tmp 12) false), .mk none (some 14) (.bin .neq (.tmp 11) (.tmp 13))] (some [0, 1, 2, 14])) (.cond (.tmp 14) (.seq (.region [.mk none (some 6) (.mv (.const (.bool false)))] (some [6])) .ret) .skip)) (.seq (.seq (.region [.mk none (some 15) (.mv (.tmp 0)), .mk none (some 16) (.len (.tmp 15) false), .mk none (some 17) (.mv (.const (.int .i64 0)))] (some [1, 2, 15, 16, 17])) (.block 0 (.loop (.seq (.region [.mk none (some 18) (.bin .lss (.tmp 17) (.tmp 16))] (some [1, 2, 15, 16, 17, 18])) (.seq (.cond (.tmp 18) .skip (.exit 0)) (.seq (.block 1 (.seq (.region [.mk none (some 19) (.mv (.tmp 17)), .mk none (some 20) (.idxA 3 (.tmp 15) (.tmp 17)), .mk none (some 21) (.load (some 3) (.tmp 20)), .mk none (some 8) (.alloc 72 [.nils, .nils, .nils]), .mk none (some 7) (.mv (.tmp 19)), .mk none none (.store 3 (.tmp 8) (.tmp 21))] (some [1, 2, 7, 8, 15, 16, 17])) (.seq (.region [.mk none (some 22) (.mv (.tmp 1)), .mk none (some 23) (.mv (.tmp 7)), .mk none (some 24) (.idxA 3 (.tmp 22) (.tmp 23)), .mk none (some 25) (.load (some 3) (.tmp 24)), .mk none (some 9) (.alloc 72 [.nils, .nils, .nils]), .mk none none (.store 3 (.tmp 9) (.tmp 25))] (some [1, 2, 8, 9, 15, 16, 17])) (.seq (.region [.mk none (some 26) (.mv (.tmp 2)), .mk none (some 27) (.load (some 3) (.tmp 8)), .mk none (some 28) (.load (some 3) (.tmp 9)), .mk none (some 29) (.callv (.tmp 26) [.tmp 27, .tmp 28]), .mk none (some 30) (.un .not (.tmp 29))] (some [1, 2, 15, 16, 17, 30])) (.cond (.tmp 30) (.seq (.region [.mk none (some 6) (.mv (.const (.bool false)))] (some [6])) .ret) .skip))))) (.region [.mk none (some 31) (.bin .add (.tmp 17) (.const (.int .i64 1))), .mk none (some 17) (.mv (.tmp 31))] (some [1, 2, 15, 16, 17])))))))) (.seq (.region [.mk none (some 6) (.mv (.const (.bool true)))] (some [6])) .ret))))
theorem ok_z56 : compC Tryz.prog an_z56 (Tryz.f142.body.getD .skip) = some ac_z56 := by kernel_rfl
theorem dst_z56 : ac_z56.dstOK Tryz.f142.ntmps (fun i => decide (i < Tryz.f142.ntmps)) = true := by kernel_rfl

/-- slices.ContainsFunc[[]int,int] -/
def an_z57 : Ann := ⟨[(0, [0, 1]), (1, [4])], [], []⟩
def ac_z57 : AC := (.seq (.region [.mk none (some 4) (.mv (.const (.bool false)))] (some [0, 1])) (.seq (.region [.mk none (some 5) (.mv (.tmp 0)), .mk none (some 6) (.mv (.tmp 1)), .mk none (some 7) (.call 191 [.tmp 5, .tmp 6]), .mk none (some 8) (.bin .geq (.tmp 7) (.const (.int .i64 0))), .mk none (some 4) (.mv (.tmp 8))] (some [4])) .ret))
theorem ok_z57 : compC Tryz.prog an_z57 (Tryz.f151.body.getD .skip) = some ac_z57 := by kernel_rfl
theorem dst_z57 : ac_z57.dstOK Tryz.f151.ntmps (fun i => decide (i < Tryz.f151.ntmps)) = true := by kernel_rfl

/-- toll/object.every[int]$1 -/
def an_z58 : Ann := ⟨[(0, [0, 1]), (1, [3])], [], []⟩
def ac_z58 : AC := (.seq (.region [.mk none (some 3) (.mv (.const (.bool false)))] (some [0, 1])) (.seq (.region [.mk none (some 4) (.load none (.tmp 1)), .mk none (some 5) (.mv (.tmp 0)), .mk none (some 6) (.callv (.tmp 4) [.tmp 5]), .mk none (some 7) (.un .not (.tmp 6)), .mk none (some 3) (.mv (.tmp 7))] (some [3])) .ret))
theorem ok_z58 : compC Tryz.prog an_z58 (Tryz.f152.body.getD .skip) = some ac_z58 := by kernel_rfl
theorem dst_z58 : ac_z58.dstOK Tryz.f152.ntmps (fun i => decide (i < Tryz.f152.ntmps)) = true := by kernel_rfl

/-- toll/object.twice[int]$1 -/
def an_z59 : Ann := ⟨[(0, [0, 1, 2]), (1, [4])], [], []⟩
def ac_z59 : AC := (.seq (.region [.mk none (some 4) (.mv (.const (.bool false)))] (some [0, 1, 2])) (.seq (.region [.mk none (some 5) (.load none (.tmp 1)), .mk none (some 6) (.load none (.tmp 2)), .mk none (some 7) (.mv (.tmp 0)), .mk none (some 8) (.callv (.tmp 5) [.tmp 6, .tmp 7]), .mk none (some 4) (.mv (.tmp 8))] (some [4])) .ret))
theorem ok_z59 : compC Tryz.prog an_z59 (Tryz.f154.body.getD .skip) = some ac_z59 := by kernel_rfl
theorem dst_z59 : ac_z59.dstOK Tryz.f154.ntmps (fun i => decide (i < Tryz.f154.ntmps)) = true := by kernel_rfl

/-- slices.ContainsFunc[[]toll/api.Listener,toll/api.Listener] -/
def an_z60 : Ann := ⟨[(0, [0, 1]), (1, [4])], [], []⟩
def ac_z60 : AC := (.seq (.region [.mk none (some 4) (.mv (.const (.bool false)))] (some [0, 1])) (.seq (.region [.mk none (some 5) (.mv (.tmp 0)), .mk none (some 6) (.mv (.tmp 1)), .mk none (some 7) (.call 194 [.tmp 5, .tmp 6]), .mk none (some 8) (.bin .geq (.tmp 7) (.const (.int .i64 0))), .mk none (some 4) (.mv (.tmp 8))] (some [4])) .ret))
theorem ok_z60 : compC Tryz.prog an_z60 (Tryz.f156.body.getD .skip) = some ac_z60 := by kernel_rfl
theorem dst_z60 : ac_z60.dstOK Tryz.f156.ntmps (fun i => decide (i < Tryz.f156.ntmps)) = true := by kernel_rfl

/-- toll/object.every[toll/api.Listener]$1 -/
def an_z61 : Ann := ⟨[(0, [1, 2]), (1, [3])], [], []⟩
def ac_z61 : AC := (.seq (.region [.mk none (some 2) (.box 82 (.tmp 0)), .mk none (some 3) (.mv (.const (.bool false)))] (some [1, 2])) (.seq (.region [.mk none (some 4) (.load none (.tmp 1)), .mk none (some 5) (.load (some 9) (.tmp 2)), .mk none (some 6) (.callv (.tmp 4) [.tmp 5]), .mk none (some 7) (.un .not (.tmp 6)), .mk none (some 3) (.mv (.tmp 7))] (some [3])) .ret))
theorem ok_z61 : compC Tryz.prog an_z61 (Tryz.f157.body.getD .skip) = some ac_z61 := by kernel_rfl
theorem dst_z61 : ac_z61.dstOK Tryz.f157.ntmps (fun i => decide (i < Tryz.f157.ntmps)) = true := by kernel_rfl

/-- toll/object.twice[toll/api.Listener]$1 -/
def an_z62 : Ann := ⟨[(0, [1, 2, 3]), (1, [4])], [], []⟩
def ac_z62 : AC := (.seq (.region [.mk none (some 3) (.box 82 (.tmp 0)), .mk none (some 4) (.mv (.const (.bool false)))] (some [1, 2, 3])) (.seq (.region [.mk none (some 5) (.load none (.tmp 1)), .mk none (some 6) (.load (some 9) (.tmp 2)), .mk none (some 7) (.load (some 9) (.tmp 3)), .mk none (some 8) (.callv (.tmp 5) [.tmp 6, .tmp 7]), .mk none (some 4) (.mv (.tmp 8))] (some [4])) .ret))
theorem ok_z62 : compC Tryz.prog an_z62 (Tryz.f160.body.getD .skip) = some ac_z62 := by kernel_rfl
theorem dst_z62 : ac_z62.dstOK Tryz.f160.ntmps (fun i => decide (i < Tryz.f160.ntmps)) = true := by kernel_rfl

/-- slices.ContainsFunc[[]toll/api.Parent,toll/api.Parent] -/
def an_z63 : Ann := ⟨[(0, [0, 1]), (1, [4])], [], []⟩
def ac_z63 : AC := (.seq (.region [.mk none (some 4) (.mv (.const (.bool false)))] (some [0, 1])) (.seq (.region [.mk none (some 5) (.mv (.tmp 0)), .mk none (some 6) (.mv (.tmp 1)), .mk none (some 7) (.call 198 [.tmp 5, .tmp 6]), .mk none (some 8) (.bin .geq (.tmp 7) (.const (.int .i64 0))), .mk none (some 4) (.mv (.tmp 8))] (some [4])) .ret))
theorem ok_z63 : compC Tryz.prog an_z63 (Tryz.f161.body.getD .skip) = some ac_z63 := by kernel_rfl
theorem dst_z63 : ac_z63.dstOK Tryz.f161.ntmps (fun i => decide (i < Tryz.f161.ntmps)) = true := by kernel_rfl

/-- toll/object.twice[toll/api.Parent]$1 -/
def an_z64 : Ann := ⟨[(0, [1, 2, 3]), (1, [4])], [], []⟩
def ac_z64 : AC := (.seq (.region [.mk none (some 3) (.box 96 (.tmp 0)), .mk none (some 4) (.mv (.const (.bool false)))] (some [1, 2, 3])) (.seq (.region [.mk none (some 5) (.load none (.tmp 1)), .mk none (some 6) (.load (some 4) (.tmp 2)), .mk none (some 7) (.load (some 4) (.tmp 3)), .mk none (some 8) (.callv (.tmp 5) [.tmp 6, .tmp 7]), .mk none (some 4) (.mv (.tmp 8))] (some [4])) .ret))
theorem ok_z64 : compC Tryz.prog an_z64 (Tryz.f162.body.getD .skip) = some ac_z64 := by kernel_rfl
theorem dst_z64 : ac_z64.dstOK Tryz.f162.ntmps (fun i => decide (i < Tryz.f162.ntmps)) = true := by kernel_rfl

/-- slices.ContainsFunc[[]string,string] -/
def an_z65 : Ann := ⟨[(0, [0, 1]), (1, [4])], [], []⟩
def ac_z65 : AC := (.seq (.region [.mk none (some 4) (.mv (.const (.bool false)))] (some [0, 1])) (.seq (.region [.mk none (some 5) (.mv (.tmp 0)), .mk none (some 6) (.mv (.tmp 1)), .mk none (some 7) (.call 199 [.tmp 5, .tmp 6]), .mk none (some 8) (.bin .geq (.tmp 7) (.const (.int .i64 0))), .mk none (some 4) (.mv (.tmp 8))] (some [4])) .ret))
theorem ok_z65 : compC Tryz.prog an_z65 (Tryz.f163.body.getD .skip) = some ac_z65 := by kernel_rfl
theorem dst_z65 : ac_z65.dstOK Tryz.f163.ntmps (fun i => decide (i < Tryz.f163.ntmps)) = true := by kernel_rfl

/-- toll/object.twice[string]$1 -/
def an_z66 : Ann := ⟨[(0, [0, 1, 2]), (1, [4])], [], []⟩
def ac_z66 : AC := (.seq (.region [.mk none (some 4) (.mv (.const (.bool false)))] (some [0, 1, 2])) (.seq (.region [.mk none (some 5) (.load none (.tmp 1)), .mk none (some 6) (.load none (.tmp 2)), .mk none (some 7) (.mv (.tmp 0)), .mk none (some 8) (.callv (.tmp 5) [.tmp 6, .tmp 7]), .mk none (some 4) (.mv (.tmp 8))] (some [4])) .ret))
theorem ok_z66 : compC Tryz.prog an_z66 (Tryz.f164.body.getD .skip) = some ac_z66 := by kernel_rfl
theorem dst_z66 : ac_z66.dstOK Tryz.f164.ntmps (fun i => decide (i < Tryz.f164.ntmps)) = true := by kernel_rfl

/-- toll/object.every[toll/api.Parent]$1 -/
def an_z67 : Ann := ⟨[(0, [1, 2]), (1, [3])], [], []⟩
def ac_z67 : AC := (.seq (.region [.mk none (some 2) (.box 96 (.tmp 0)), .mk none (some 3) (.mv (.const (.bool false)))] (some [1, 2])) (.seq (.region [.mk none (some 4) (.load none (.tmp 1)), .mk none (some 5) (.load (some 4) (.tmp 2)), .mk none (some 6) (.callv (.tmp 4) [.tmp 5]), .mk none (some 7) (.un .not (.tmp 6)), .mk none (some 3) (.mv (.tmp 7))] (some [3])) .ret))
theorem ok_z67 : compC Tryz.prog an_z67 (Tryz.f166.body.getD .skip) = some ac_z67 := by kernel_rfl
theorem dst_z67 : ac_z67.dstOK Tryz.f166.ntmps (fun i => decide (i < Tryz.f166.ntmps)) = true := by kernel_rfl

/-- toll/object.every[string]$1 -/
def an_z68 : Ann := ⟨[(0, [0, 1]), (1, [3])], [], []⟩
def ac_z68 : AC := (.seq (.region [.mk none (some 3) (.mv (.const (.bool false)))] (some [0, 1])) (.seq (.region [.mk none (some 4) (.load none (.tmp 1)), .mk none (some 5) (.mv (.tmp 0)), .mk none (some 6) (.callv (.tmp 4) [.tmp 5]), .mk none (some 7) (.un .not (.tmp 6)), .mk none (some 3) (.mv (.tmp 7))] (some [3])) .ret))
theorem ok_z68 : compC Tryz.prog an_z68 (Tryz.f167.body.getD .skip) = some ac_z68 := by kernel_rfl
theorem dst_z68 : ac_z68.dstOK Tryz.f167.ntmps (fun i => decide (i < Tryz.f167.ntmps)) = true := by kernel_rfl

/-- slices.ContainsFunc[[]toll/api.Rule,toll/api.Rule] -/
def an_z69 : Ann := ⟨[(0, [0, 1]), (1, [4])], [], []⟩
def ac_z69 : AC := (.seq (.region [.mk none (some 4) (.mv (.const (.bool false)))] (some [0, 1])) (.seq (.region [.mk none (some 5) (.mv (.tmp 0)), .mk none (some 6) (.mv (.tmp 1)), .mk none (some 7) (.call 201 [.tmp 5, .tmp 6]), .mk none (some 8) (.bin .geq (.tmp 7) (.const (.int .i64 0))), .mk none (some 4) (.mv (.tmp 8))] (some [4])) .ret))
theorem ok_z69 : compC Tryz.prog an_z69 (Tryz.f168.body.getD .skip) = some ac_z69 := by kernel_rfl
theorem dst_z69 : ac_z69.dstOK Tryz.f168.ntmps (fun i => decide (i < Tryz.f168.ntmps)) = true := by kernel_rfl

/-- toll/object.every[toll/api.Rule]$1 -/
def an_z70 : Ann := ⟨[(0, [1, 2]), (1, [3])], [], []⟩
def ac_z70 : AC := (.seq (.region [.mk none (some 2) (.box 72 (.tmp 0)), .mk none (some 3) (.mv (.const (.bool false)))] (some [1, 2])) (.seq (.region [.mk none (some 4) (.load none (.tmp 1)), .mk none (some 5) (.load (some 3) (.tmp 2)), .mk none (some 6) (.callv (.tmp 4) [.tmp 5]), .mk none (some 7) (.un .not (.tmp 6)), .mk none (some 3) (.mv (.tmp 7))] (some [3])) .ret))
theorem ok_z70 : compC Tryz.prog an_z70 (Tryz.f169.body.getD .skip) = some ac_z70 := by kernel_rfl
theorem dst_z70 : ac_z70.dstOK Tryz.f169.ntmps (fun i => decide (i < Tryz.f169.ntmps)) = true := by kernel_rfl

/-- toll/object.every[toll/api.Match] -/
def an_z71 : Ann := ⟨[(0, [0, 1, 5]), (1, [6])], [], []⟩
def ac_z71 : AC := (.seq (.region [.mk none (some 5) (.box 177 (.tmp 2)), .mk none (some 6) (.mv (.const (.bool false)))] (some [0, 1, 5])) (.seq (.region [.mk none (some 7) (.mv (.tmp 0)), .mk none (some 8) (.len (.tmp 7) false), .mk none (some 9) (.mv (.tmp 1)), .mk none (some 10) (.bin .leq (.tmp 8) (.tmp 9)), .mk none (some 11) (.mv (.tmp 10)), .mk (some (11, true)) (some 12) (.mv (.tmp 0)), .mk (some (11, true)) (some 13) (.mkfn 203 [.tmp 5]), .mk (some (11, true)) (some 14) (.call 202 [.tmp 12, .tmp 13]), .mk (some (11, true)) (some 15) (.un .not (.tmp 14)), .mk none (some 16) (.pick (.tmp 11) (.tmp 15) (.const (.bool false))), .mk none (some 6) (.mv (.tmp 16))] (some [6])) .ret))
theorem ok_z71 : compC Tryz.prog an_z71 (Tryz.f170.body.getD .skip) = some ac_z71 := by kernel_rfl
theorem dst_z71 : ac_z71.dstOK Tryz.f170.ntmps (fun i => decide (i < Tryz.f170.ntmps)) = true := by kernel_rfl

/-- toll/object.every[toll/api.Backend] -/
def an_z72 : Ann := ⟨[(0, [0, 1, 5]), (1, [6])], [], []⟩
def ac_z72 : AC := (.seq (.region [.mk none (some 5) (.box 190 (.tmp 2)), .mk none (some 6) (.mv (.const (.bool false)))] (some [0, 1, 5])) (.seq (.region [.mk none (some 7) (.mv (.tmp 0)), .mk none (some 8) (.len (.tmp 7) false), .mk none (some 9) (.mv (.tmp 1)), .mk none (some 10) (.bin .leq (.tmp 8) (.tmp 9)), .mk none (some 11) (.mv (.tmp 10)), .mk (some (11, true)) (some 12) (.mv (.tmp 0)), .mk (some (11, true)) (some 13) (.mkfn 219 [.tmp 5]), .mk (some (11, true)) (some 14) (.call 218 [.tmp 12, .tmp 13]), .mk (some (11, true)) (some 15) (.un .not (.tmp 14)), .mk none (some 16) (.pick (.tmp 11) (.tmp 15) (.const (.bool false))), .mk none (some 6) (.mv (.tmp 16))] (some [6])) .ret))
theorem ok_z72 : compC Tryz.prog an_z72 (Tryz.f173.body.getD .skip) = some ac_z72 := by kernel_rfl
theorem dst_z72 : ac_z72.dstOK Tryz.f173.ntmps (fun i => decide (i < Tryz.f173.ntmps)) = true := by kernel_rfl

/-- toll/object.every[toll/api.Side]$1 -/
def an_z73 : Ann := ⟨[(0, [1, 2]), (1, [3])], [], []⟩
def ac_z73 : AC := (.seq (.region [.mk none (some 2) (.box 45 (.tmp 0)), .mk none (some 3) (.mv (.const (.bool false)))] (some [1, 2])) (.seq (.region [.mk none (some 4) (.load none (.tmp 1)), .mk none (some 5) (.load (some 3) (.tmp 2)), .mk none (some 6) (.callv (.tmp 4) [.tmp 5]), .mk none (some 7) (.un .not (.tmp 6)), .mk none (some 3) (.mv (.tmp 7))] (some [3])) .ret))
theorem ok_z73 : compC Tryz.prog an_z73 (Tryz.f178.body.getD .skip) = some ac_z73 := by kernel_rfl
theorem dst_z73 : ac_z73.dstOK Tryz.f178.ntmps (fun i => decide (i < Tryz.f178.ntmps)) = true := by kernel_rfl

/-- slices.EqualFunc[[]toll/api.Match,[]toll/api.Match,toll/api.Match,toll/api.Match] -/
def an_z74 : Ann := ⟨[(0, [0, 1, 2]), (1, [0, 1, 2, 14]), (2, [6]), (3, [1, 2, 15, 16, 17]), (4, [1, 2, 15, 16, 17, 18]), (5, [1, 2, 7, 8, 15, 16, 17]), (6, [1, 2, 8, 9, 15, 16, 17]), (7, [1, 2, 15, 16, 17, 30]), (8, [6]), (9, [1, 2, 15, 16, 17]), (10, [6])], [], []⟩
def ac_z74 : AC := (.seq (.region [.mk none (some 6) (.mv (.const (.bool false)))] (some [0, 1, 2])) (.seq (.seq (.region [.mk none (some 10) (.mv (.tmp 0)), .mk none (some 11) (.len (.tmp 10) false), .mk none (some 12) (.mv (.tmp 1)), .mk none (some 13) (.len (.tmp 12) false), .mk none (some 14) (.bin .neq (.tmp 11) (.tmp 13))] (some [0, 1, 2, 14])) (.cond (.tmp 14) (.seq (.region [.mk none (some 6) (.mv (.const (.bool false)))] (some [6])) .ret) .skip)) (.seq (.seq (.region [.mk none (some 15) (.mv (.tmp 0)), .mk none (some 16) (.len (.tmp 15) false), .mk none (some 17) (.mv (.const (.int .i64 0)))] (some [1, 2, 15, 16, 17])) (.block 0 (.loop (.seq (.region [.mk none (some 18) (.bin .lss (.tmp 17) (.tmp 16))] (some [1, 2, 15, 16, 17, 18])) (.seq (.cond (.tmp 18) .skip (.exit 0)) (.seq (.block 1 (.seq (.region [.mk none (some 19) (.mv (.tmp 17)), .mk none (some 20) (.idxA 5 (.tmp 15) (.tmp 17)), .mk none (some 21) (.load (some 5) (.tmp 20)), .mk none (some 8) (.alloc 101 [.pd (.raw (.int .i64 0)), .pd (.raw (.string ⟨#[]⟩)), .pd (.raw (.string ⟨#[]⟩)), .nils, .nils]), .mk none (some 7) (.mv (.tmp 19)), .mk none none (.store 5 (.tmp 8) (.tmp 21))] (some [1, 2, 7, 8, 15, 16, 17])) (.seq (.region [.mk none (some 22) (.mv (.tmp 1)), .mk none (some 23) (.mv (.tmp 7)), .mk none (some 24) (.idxA 5 (.tmp 22) (.tmp 23)), .mk none (some 25) (.load (some 5) (.tmp 24)), .mk none (some 9) (.alloc 101 [.pd (.raw (.int .i64 0)), .pd (.raw (.string ⟨#[]⟩)), .pd (.raw (.string ⟨#[]⟩)), .nils, .nils]), .mk none none (.store 5 (.tmp 9) (.tmp 25))] (some [1, 2, 8, 9, 15, 16, 17])) (.seq (.region [.mk none (some 26) (.mv (.tmp 2)), .mk none (some 27) (.load (some 5) (.tmp 8)), .mk none (some 28) (.load (some 5) (.tmp 9)), .mk none (some 29) (.callv (.tmp 26) [.tmp 27, .tmp 28]), .mk none (some 30) (.un .not (.tmp 29))] (some [1, 2, 15, 16, 17, 30])) (.cond (.tmp 30) (.seq (.region [.mk none (some 6) (.mv (.const (.bool false)))] (some [6])) .ret) .skip))))) (.region [.mk none (some 31) (.bin .add (.tmp 17) (.const (.int .i64 1))), .mk none (some 17) (.mv (.tmp 31))] (some [1, 2, 15, 16, 17])))))))) (.seq (.region [.mk none (some 6) (.mv (.const (.bool true)))] (some [6])) .ret))))
theorem ok_z74 : compC Tryz.prog an_z74 (Tryz.f180.body.getD .skip) = some ac_z74 := by kernel_rfl
theorem dst_z74 : ac_z74.dstOK Tryz.f180.ntmps (fun i => decide (i < Tryz.f180.ntmps)) = true := by kernel_rfl

/-- slices.Equal[[]toll/api.Filter,toll/api.Filter] -/
def an_z75 : Ann := ⟨[(0, [0, 1]), (1, [0, 1, 10]), (2, [4]), (3, [0, 1, 12, 13]), (4, [0, 1, 12, 13, 14]), (5, [0, 1, 5, 12, 13]), (6, [0, 1, 12, 13, 24]), (7, [4]), (8, [0, 1, 12, 13]), (9, [4])], [(6, ([0, 0, 3, 7, 0, 0, 48, 112, 255], .take 0 (.take 1 (.take 2 (.take 3 (.take 4 (.take 5 (.take 6 (.take 7 (.take 8 (.done)))))))))))], []⟩
def ac_z75 : AC := (.seq (.region [.mk none (some 4) (.mv (.const (.bool false)))] (some [0, 1])) (.seq (.seq (.region [.mk none (some 6) (.mv (.tmp 0)), .mk none (some 7) (.len (.tmp 6) false), .mk none (some 8) (.mv (.tmp 1)), .mk none (some 9) (.len (.tmp 8) false), .mk none (some 10) (.bin .neq (.tmp 7) (.tmp 9))] (some [0, 1, 10])) (.cond (.tmp 10) (.seq (.region [.mk none (some 4) (.mv (.const (.bool false)))] (some [4])) .ret) .skip)) (.seq (.seq (.region [.mk none (some 11) (.mv (.tmp 0)), .mk none (some 12) (.len (.tmp 11) false), .mk none (some 13) (.mv (.const (.int .i64 0)))] (some [0, 1, 12, 13])) (.block 0 (.loop (.seq (.region [.mk none (some 14) (.bin .lss (.tmp 13) (.tmp 12))] (some [0, 1, 12, 13, 14])) (.seq (.cond (.tmp 14) .skip (.exit 0)) (.seq (.block 1 (.seq (.region [.mk none (some 15) (.mv (.tmp 13)), .mk none (some 5) (.mv (.tmp 15))] (some [0, 1, 5, 12, 13])) (.seq (.draw [.mk none (some 16) (.mv (.tmp 0)), .mk none (some 17) (.mv (.tmp 5)), .mk none (some 18) (.idxA 8 (.tmp 16) (.tmp 17)), .mk none (some 19) (.load (some 8) (.tmp 18)), .mk none (some 20) (.mv (.tmp 1)), .mk none (some 21) (.mv (.tmp 5)), .mk none (some 22) (.idxA 8 (.tmp 20) (.tmp 21)), .mk none (some 23) (.load (some 8) (.tmp 22)), .mk none (some 24) (.eqs true [.int, .str, .str, .str, .int, .str, .bool, .int] (.tmp 19) (.tmp 23))] [0, 0, 3, 7, 0, 0, 48, 112, 255] (.take 0 (.take 1 (.take 2 (.take 3 (.take 4 (.take 5 (.take 6 (.take 7 (.take 8 .done))))))))) (some [0, 1, 12, 13, 24])) (.cond (.tmp 24) (.seq (.region [.mk none (some 4) (.mv (.const (.bool false)))] (some [4])) .ret) .skip)))) (.region [.mk none (some 25) (.bin .add (.tmp 13) (.const (.int .i64 1))), .mk none (some 13) (.mv (.tmp 25))] (some [0, 1, 12, 13])))))))) (.seq (.region [.mk none (some 4) (.mv (.const (.bool true)))] (some [4])) .ret))))
theorem ok_z75 : compC Tryz.prog an_z75 (Tryz.f182.body.getD .skip) = some ac_z75 := by kernel_rfl
theorem dst_z75 : ac_z75.dstOK Tryz.f182.ntmps (fun i => decide (i < Tryz.f182.ntmps)) = true := by kernel_rfl

/-- slices.Equal[[]toll/api.Backend,toll/api.Backend] -/
def an_z76 : Ann := ⟨[(0, [0, 1]), (1, [0, 1, 10]), (2, [4]), (3, [0, 1, 12, 13]), (4, [0, 1, 12, 13, 14]), (5, [0, 1, 5, 12, 13]), (6, [0, 1, 12, 13, 24]), (7, [4]), (8, [0, 1, 12, 13]), (9, [4])], [(6, ([0, 0, 3, 7, 0, 0, 48, 112, 255], .take 0 (.take 1 (.take 2 (.take 3 (.take 4 (.take 5 (.take 6 (.take 7 (.take 8 (.done)))))))))))], []⟩
def ac_z76 : AC := (.seq (.region [.mk none (some 4) (.mv (.const (.bool false)))] (some [0, 1])) (.seq (.seq (.region [.mk none (some 6) (.mv (.tmp 0)), .mk none (some 7) (.len (.tmp 6) false), .mk none (some 8) (.mv (.tmp 1)), .mk none (some 9) (.len (.tmp 8) false), .mk none (some 10) (.bin .neq (.tmp 7) (.tmp 9))] (some [0, 1, 10])) (.cond (.tmp 10) (.seq (.region [.mk none (some 4) (.mv (.const (.bool false)))] (some [4])) .ret) .skip)) (.seq (.seq (.region [.mk none (some 11) (.mv (.tmp 0)), .mk none (some 12) (.len (.tmp 11) false), .mk none (some 13) (.mv (.const (.int .i64 0)))] (some [0, 1, 12, 13])) (.block 0 (.loop (.seq (.region [.mk none (some 14) (.bin .lss (.tmp 13) (.tmp 12))] (some [0, 1, 12, 13, 14])) (.seq (.cond (.tmp 14) .skip (.exit 0)) (.seq (.block 1 (.seq (.region [.mk none (some 15) (.mv (.tmp 13)), .mk none (some 5) (.mv (.tmp 15))] (some [0, 1, 5, 12, 13])) (.seq (.draw [.mk none (some 16) (.mv (.tmp 0)), .mk none (some 17) (.mv (.tmp 5)), .mk none (some 18) (.idxA 5 (.tmp 16) (.tmp 17)), .mk none (some 19) (.load (some 5) (.tmp 18)), .mk none (some 20) (.mv (.tmp 1)), .mk none (some 21) (.mv (.tmp 5)), .mk none (some 22) (.idxA 5 (.tmp 20) (.tmp 21)), .mk none (some 23) (.load (some 5) (.tmp 22)), .mk none (some 24) (.eqs true [.int, .str, .str, .int, .int] (.tmp 19) (.tmp 23))] [0, 0, 3, 7, 0, 0, 48, 112, 255] (.take 0 (.take 1 (.take 2 (.take 3 (.take 4 (.take 5 (.take 6 (.take 7 (.take 8 .done))))))))) (some [0, 1, 12, 13, 24])) (.cond (.tmp 24) (.seq (.region [.mk none (some 4) (.mv (.const (.bool false)))] (some [4])) .ret) .skip)))) (.region [.mk none (some 25) (.bin .add (.tmp 13) (.const (.int .i64 1))), .mk none (some 13) (.mv (.tmp 25))] (some [0, 1, 12, 13])))))))) (.seq (.region [.mk none (some 4) (.mv (.const (.bool true)))] (some [4])) .ret))))
theorem ok_z76 : compC Tryz.prog an_z76 (Tryz.f183.body.getD .skip) = some ac_z76 := by kernel_rfl
theorem dst_z76 : ac_z76.dstOK Tryz.f183.ntmps (fun i => decide (i < Tryz.f183.ntmps)) = true := by kernel_rfl

/-- slices.IndexFunc[[]int,int] -/
def an_z77 : Ann := ⟨[(0, [0, 1]), (1, [0, 1, 7, 8]), (2, [0, 1, 7, 8, 9]), (3, [0, 1, 5, 7, 8]), (4, [0, 1, 5, 7, 8, 16]), (5, [4]), (6, [0, 1, 7, 8]), (7, [4])], [], []⟩
def ac_z77 : AC := (.seq (.region [.mk none (some 4) (.mv (.const (.int .i64 0)))] (some [0, 1])) (.seq (.seq (.region [.mk none (some 6) (.mv (.tmp 0)), .mk none (some 7) (.len (.tmp 6) false), .mk none (some 8) (.mv (.const (.int .i64 0)))] (some [0, 1, 7, 8])) (.block 0 (.loop (.seq (.region [.mk none (some 9) (.bin .lss (.tmp 8) (.tmp 7))] (some [0, 1, 7, 8, 9])) (.seq (.cond (.tmp 9) .skip (.exit 0)) (.seq (.block 1 (.seq (.region [.mk none (some 10) (.mv (.tmp 8)), .mk none (some 5) (.mv (.tmp 10))] (some [0, 1, 5, 7, 8])) (.seq (.region [.mk none (some 11) (.mv (.tmp 1)), .mk none (some 12) (.mv (.tmp 0)), .mk none (some 13) (.mv (.tmp 5)), .mk none (some 14) (.idxA 1 (.tmp 12) (.tmp 13)), .mk none (some 15) (.load none (.tmp 14)), .mk none (some 16) (.callv (.tmp 11) [.tmp 15])] (some [0, 1, 5, 7, 8, 16])) (.cond (.tmp 16) (.seq (.region [.mk none (some 17) (.mv (.tmp 5)), .mk none (some 4) (.mv (.tmp 17))] (some [4])) .ret) .skip)))) (.region [.mk none (some 18) (.bin .add (.tmp 8) (.const (.int .i64 1))), .mk none (some 8) (.mv (.tmp 18))] (some [0, 1, 7, 8])))))))) (.seq (.region [.mk none (some 4) (.mv (.const (.int .i64 (-1))))] (some [4])) .ret)))
theorem ok_z77 : compC Tryz.prog an_z77 (Tryz.f191.body.getD .skip) = some ac_z77 := by kernel_rfl
theorem dst_z77 : ac_z77.dstOK Tryz.f191.ntmps (fun i => decide (i < Tryz.f191.ntmps)) = true := by kernel_rfl

/-- slices.IndexFunc[[]toll/api.Listener,toll/api.Listener] -/
def an_z78 : Ann := ⟨[(0, [0, 1]), (1, [0, 1, 7, 8]), (2, [0, 1, 7, 8, 9]), (3, [0, 1, 5, 7, 8]), (4, [0, 1, 5, 7, 8, 16]), (5, [4]), (6, [0, 1, 7, 8]), (7, [4])], [], []⟩
def ac_z78 : AC := (.seq (.region [.mk none (some 4) (.mv (.const (.int .i64 0)))] (some [0, 1])) (.seq (.seq (.region [.mk none (some 6) (.mv (.tmp 0)), .mk none (some 7) (.len (.tmp 6) false), .mk none (some 8) (.mv (.const (.int .i64 0)))] (some [0, 1, 7, 8])) (.block 0 (.loop (.seq (.region [.mk none (some 9) (.bin .lss (.tmp 8) (.tmp 7))] (some [0, 1, 7, 8, 9])) (.seq (.cond (.tmp 9) .skip (.exit 0)) (.seq (.block 1 (.seq (.region [.mk none (some 10) (.mv (.tmp 8)), .mk none (some 5) (.mv (.tmp 10))] (some [0, 1, 5, 7, 8])) (.seq (.region [.mk none (some 11) (.mv (.tmp 1)), .mk none (some 12) (.mv (.tmp 0)), .mk none (some 13) (.mv (.tmp 5)), .mk none (some 14) (.idxA 9 (.tmp 12) (.tmp 13)), .mk none (some 15) (.load (some 9) (.tmp 14)), .mk none (some 16) (.callv (.tmp 11) [.tmp 15])] (some [0, 1, 5, 7, 8, 16])) (.cond (.tmp 16) (.seq (.region [.mk none (some 17) (.mv (.tmp 5)), .mk none (some 4) (.mv (.tmp 17))] (some [4])) .ret) .skip)))) (.region [.mk none (some 18) (.bin .add (.tmp 8) (.const (.int .i64 1))), .mk none (some 8) (.mv (.tmp 18))] (some [0, 1, 7, 8])))))))) (.seq (.region [.mk none (some 4) (.mv (.const (.int .i64 (-1))))] (some [4])) .ret)))
theorem ok_z78 : compC Tryz.prog an_z78 (Tryz.f194.body.getD .skip) = some ac_z78 := by kernel_rfl
theorem dst_z78 : ac_z78.dstOK Tryz.f194.ntmps (fun i => decide (i < Tryz.f194.ntmps)) = true := by kernel_rfl

/-- slices.ContainsFunc[[]toll/api.Need,toll/api.Need] -/
def an_z79 : Ann := ⟨[(0, [0, 1]), (1, [4])], [], []⟩
def ac_z79 : AC := (.seq (.region [.mk none (some 4) (.mv (.const (.bool false)))] (some [0, 1])) (.seq (.region [.mk none (some 5) (.mv (.tmp 0)), .mk none (some 6) (.mv (.tmp 1)), .mk none (some 7) (.call 230 [.tmp 5, .tmp 6]), .mk none (some 8) (.bin .geq (.tmp 7) (.const (.int .i64 0))), .mk none (some 4) (.mv (.tmp 8))] (some [4])) .ret))
theorem ok_z79 : compC Tryz.prog an_z79 (Tryz.f195.body.getD .skip) = some ac_z79 := by kernel_rfl
theorem dst_z79 : ac_z79.dstOK Tryz.f195.ntmps (fun i => decide (i < Tryz.f195.ntmps)) = true := by kernel_rfl

/-- slices.IndexFunc[[]toll/api.Parent,toll/api.Parent] -/
def an_z80 : Ann := ⟨[(0, [0, 1]), (1, [0, 1, 7, 8]), (2, [0, 1, 7, 8, 9]), (3, [0, 1, 5, 7, 8]), (4, [0, 1, 5, 7, 8, 16]), (5, [4]), (6, [0, 1, 7, 8]), (7, [4])], [], []⟩
def ac_z80 : AC := (.seq (.region [.mk none (some 4) (.mv (.const (.int .i64 0)))] (some [0, 1])) (.seq (.seq (.region [.mk none (some 6) (.mv (.tmp 0)), .mk none (some 7) (.len (.tmp 6) false), .mk none (some 8) (.mv (.const (.int .i64 0)))] (some [0, 1, 7, 8])) (.block 0 (.loop (.seq (.region [.mk none (some 9) (.bin .lss (.tmp 8) (.tmp 7))] (some [0, 1, 7, 8, 9])) (.seq (.cond (.tmp 9) .skip (.exit 0)) (.seq (.block 1 (.seq (.region [.mk none (some 10) (.mv (.tmp 8)), .mk none (some 5) (.mv (.tmp 10))] (some [0, 1, 5, 7, 8])) (.seq (.region [.mk none (some 11) (.mv (.tmp 1)), .mk none (some 12) (.mv (.tmp 0)), .mk none (some 13) (.mv (.tmp 5)), .mk none (some 14) (.idxA 4 (.tmp 12) (.tmp 13)), .mk none (some 15) (.load (some 4) (.tmp 14)), .mk none (some 16) (.callv (.tmp 11) [.tmp 15])] (some [0, 1, 5, 7, 8, 16])) (.cond (.tmp 16) (.seq (.region [.mk none (some 17) (.mv (.tmp 5)), .mk none (some 4) (.mv (.tmp 17))] (some [4])) .ret) .skip)))) (.region [.mk none (some 18) (.bin .add (.tmp 8) (.const (.int .i64 1))), .mk none (some 8) (.mv (.tmp 18))] (some [0, 1, 7, 8])))))))) (.seq (.region [.mk none (some 4) (.mv (.const (.int .i64 (-1))))] (some [4])) .ret)))
theorem ok_z80 : compC Tryz.prog an_z80 (Tryz.f198.body.getD .skip) = some ac_z80 := by kernel_rfl
theorem dst_z80 : ac_z80.dstOK Tryz.f198.ntmps (fun i => decide (i < Tryz.f198.ntmps)) = true := by kernel_rfl

/-- slices.IndexFunc[[]string,string] -/
def an_z81 : Ann := ⟨[(0, [0, 1]), (1, [0, 1, 7, 8]), (2, [0, 1, 7, 8, 9]), (3, [0, 1, 5, 7, 8]), (4, [0, 1, 5, 7, 8, 16]), (5, [4]), (6, [0, 1, 7, 8]), (7, [4])], [], []⟩
def ac_z81 : AC := (.seq (.region [.mk none (some 4) (.mv (.const (.int .i64 0)))] (some [0, 1])) (.seq (.seq (.region [.mk none (some 6) (.mv (.tmp 0)), .mk none (some 7) (.len (.tmp 6) false), .mk none (some 8) (.mv (.const (.int .i64 0)))] (some [0, 1, 7, 8])) (.block 0 (.loop (.seq (.region [.mk none (some 9) (.bin .lss (.tmp 8) (.tmp 7))] (some [0, 1, 7, 8, 9])) (.seq (.cond (.tmp 9) .skip (.exit 0)) (.seq (.block 1 (.seq (.region [.mk none (some 10) (.mv (.tmp 8)), .mk none (some 5) (.mv (.tmp 10))] (some [0, 1, 5, 7, 8])) (.seq (.region [.mk none (some 11) (.mv (.tmp 1)), .mk none (some 12) (.mv (.tmp 0)), .mk none (some 13) (.mv (.tmp 5)), .mk none (some 14) (.idxA 1 (.tmp 12) (.tmp 13)), .mk none (some 15) (.load none (.tmp 14)), .mk none (some 16) (.callv (.tmp 11) [.tmp 15])] (some [0, 1, 5, 7, 8, 16])) (.cond (.tmp 16) (.seq (.region [.mk none (some 17) (.mv (.tmp 5)), .mk none (some 4) (.mv (.tmp 17))] (some [4])) .ret) .skip)))) (.region [.mk none (some 18) (.bin .add (.tmp 8) (.const (.int .i64 1))), .mk none (some 8) (.mv (.tmp 18))] (some [0, 1, 7, 8])))))))) (.seq (.region [.mk none (some 4) (.mv (.const (.int .i64 (-1))))] (some [4])) .ret)))
theorem ok_z81 : compC Tryz.prog an_z81 (Tryz.f199.body.getD .skip) = some ac_z81 := by kernel_rfl
theorem dst_z81 : ac_z81.dstOK Tryz.f199.ntmps (fun i => decide (i < Tryz.f199.ntmps)) = true := by kernel_rfl

/-- slices.IndexFunc[[]toll/api.Rule,toll/api.Rule] -/
def an_z82 : Ann := ⟨[(0, [0, 1]), (1, [0, 1, 7, 8]), (2, [0, 1, 7, 8, 9]), (3, [0, 1, 5, 7, 8]), (4, [0, 1, 5, 7, 8, 16]), (5, [4]), (6, [0, 1, 7, 8]), (7, [4])], [], []⟩
def ac_z82 : AC := (.seq (.region [.mk none (some 4) (.mv (.const (.int .i64 0)))] (some [0, 1])) (.seq (.seq (.region [.mk none (some 6) (.mv (.tmp 0)), .mk none (some 7) (.len (.tmp 6) false), .mk none (some 8) (.mv (.const (.int .i64 0)))] (some [0, 1, 7, 8])) (.block 0 (.loop (.seq (.region [.mk none (some 9) (.bin .lss (.tmp 8) (.tmp 7))] (some [0, 1, 7, 8, 9])) (.seq (.cond (.tmp 9) .skip (.exit 0)) (.seq (.block 1 (.seq (.region [.mk none (some 10) (.mv (.tmp 8)), .mk none (some 5) (.mv (.tmp 10))] (some [0, 1, 5, 7, 8])) (.seq (.region [.mk none (some 11) (.mv (.tmp 1)), .mk none (some 12) (.mv (.tmp 0)), .mk none (some 13) (.mv (.tmp 5)), .mk none (some 14) (.idxA 3 (.tmp 12) (.tmp 13)), .mk none (some 15) (.load (some 3) (.tmp 14)), .mk none (some 16) (.callv (.tmp 11) [.tmp 15])] (some [0, 1, 5, 7, 8, 16])) (.cond (.tmp 16) (.seq (.region [.mk none (some 17) (.mv (.tmp 5)), .mk none (some 4) (.mv (.tmp 17))] (some [4])) .ret) .skip)))) (.region [.mk none (some 18) (.bin .add (.tmp 8) (.const (.int .i64 1))), .mk none (some 8) (.mv (.tmp 18))] (some [0, 1, 7, 8])))))))) (.seq (.region [.mk none (some 4) (.mv (.const (.int .i64 (-1))))] (some [4])) .ret)))
theorem ok_z82 : compC Tryz.prog an_z82 (Tryz.f201.body.getD .skip) = some ac_z82 := by kernel_rfl
theorem dst_z82 : ac_z82.dstOK Tryz.f201.ntmps (fun i => decide (i < Tryz.f201.ntmps)) = true := by kernel_rfl

/-- slices.ContainsFunc[[]toll/api.Match,toll/api.Match] -/
def an_z83 : Ann := ⟨[(0, [0, 1]), (1, [4])], [], []⟩
def ac_z83 : AC := (.seq (.region [.mk none (some 4) (.mv (.const (.bool false)))] (some [0, 1])) (.seq (.region [.mk none (some 5) (.mv (.tmp 0)), .mk none (some 6) (.mv (.tmp 1)), .mk none (some 7) (.call 233 [.tmp 5, .tmp 6]), .mk none (some 8) (.bin .geq (.tmp 7) (.const (.int .i64 0))), .mk none (some 4) (.mv (.tmp 8))] (some [4])) .ret))
theorem ok_z83 : compC Tryz.prog an_z83 (Tryz.f202.body.getD .skip) = some ac_z83 := by kernel_rfl
theorem dst_z83 : ac_z83.dstOK Tryz.f202.ntmps (fun i => decide (i < Tryz.f202.ntmps)) = true := by kernel_rfl

/-- toll/object.every[toll/api.Match]$1 -/
def an_z84 : Ann := ⟨[(0, [1, 2]), (1, [3])], [], []⟩
def ac_z84 : AC := (.seq (.region [.mk none (some 2) (.box 101 (.tmp 0)), .mk none (some 3) (.mv (.const (.bool false)))] (some [1, 2])) (.seq (.region [.mk none (some 4) (.load none (.tmp 1)), .mk none (some 5) (.load (some 5) (.tmp 2)), .mk none (some 6) (.callv (.tmp 4) [.tmp 5]), .mk none (some 7) (.un .not (.tmp 6)), .mk none (some 3) (.mv (.tmp 7))] (some [3])) .ret))
theorem ok_z84 : compC Tryz.prog an_z84 (Tryz.f203.body.getD .skip) = some ac_z84 := by kernel_rfl
theorem dst_z84 : ac_z84.dstOK Tryz.f203.ntmps (fun i => decide (i < Tryz.f203.ntmps)) = true := by kernel_rfl

/-- slices.ContainsFunc[[]toll/api.Pair,toll/api.Pair] -/
def an_z85 : Ann := ⟨[(0, [0, 1]), (1, [4])], [], []⟩
def ac_z85 : AC := (.seq (.region [.mk none (some 4) (.mv (.const (.bool false)))] (some [0, 1])) (.seq (.region [.mk none (some 5) (.mv (.tmp 0)), .mk none (some 6) (.mv (.tmp 1)), .mk none (some 7) (.call 239 [.tmp 5, .tmp 6]), .mk none (some 8) (.bin .geq (.tmp 7) (.const (.int .i64 0))), .mk none (some 4) (.mv (.tmp 8))] (some [4])) .ret))
theorem ok_z85 : compC Tryz.prog an_z85 (Tryz.f209.body.getD .skip) = some ac_z85 := by kernel_rfl
theorem dst_z85 : ac_z85.dstOK Tryz.f209.ntmps (fun i => decide (i < Tryz.f209.ntmps)) = true := by kernel_rfl

/-- slices.ContainsFunc[[]toll/api.Filter,toll/api.Filter] -/
def an_z86 : Ann := ⟨[(0, [0, 1]), (1, [4])], [], []⟩
def ac_z86 : AC := (.seq (.region [.mk none (some 4) (.mv (.const (.bool false)))] (some [0, 1])) (.seq (.region [.mk none (some 5) (.mv (.tmp 0)), .mk none (some 6) (.mv (.tmp 1)), .mk none (some 7) (.call 243 [.tmp 5, .tmp 6]), .mk none (some 8) (.bin .geq (.tmp 7) (.const (.int .i64 0))), .mk none (some 4) (.mv (.tmp 8))] (some [4])) .ret))
theorem ok_z86 : compC Tryz.prog an_z86 (Tryz.f217.body.getD .skip) = some ac_z86 := by kernel_rfl
theorem dst_z86 : ac_z86.dstOK Tryz.f217.ntmps (fun i => decide (i < Tryz.f217.ntmps)) = true := by kernel_rfl

/-- slices.ContainsFunc[[]toll/api.Backend,toll/api.Backend] -/
def an_z87 : Ann := ⟨[(0, [0, 1]), (1, [4])], [], []⟩
def ac_z87 : AC := (.seq (.region [.mk none (some 4) (.mv (.const (.bool false)))] (some [0, 1])) (.seq (.region [.mk none (some 5) (.mv (.tmp 0)), .mk none (some 6) (.mv (.tmp 1)), .mk none (some 7) (.call 244 [.tmp 5, .tmp 6]), .mk none (some 8) (.bin .geq (.tmp 7) (.const (.int .i64 0))), .mk none (some 4) (.mv (.tmp 8))] (some [4])) .ret))
theorem ok_z87 : compC Tryz.prog an_z87 (Tryz.f218.body.getD .skip) = some ac_z87 := by kernel_rfl
theorem dst_z87 : ac_z87.dstOK Tryz.f218.ntmps (fun i => decide (i < Tryz.f218.ntmps)) = true := by kernel_rfl

/-- toll/object.every[toll/api.Backend]$1 -/
def an_z88 : Ann := ⟨[(0, [1, 2]), (1, [3])], [], []⟩
def ac_z88 : AC := (.seq (.region [.mk none (some 2) (.box 74 (.tmp 0)), .mk none (some 3) (.mv (.const (.bool false)))] (some [1, 2])) (.seq (.region [.mk none (some 4) (.load none (.tmp 1)), .mk none (some 5) (.load (some 5) (.tmp 2)), .mk none (some 6) (.callv (.tmp 4) [.tmp 5]), .mk none (some 7) (.un .not (.tmp 6)), .mk none (some 3) (.mv (.tmp 7))] (some [3])) .ret))
theorem ok_z88 : compC Tryz.prog an_z88 (Tryz.f219.body.getD .skip) = some ac_z88 := by kernel_rfl
theorem dst_z88 : ac_z88.dstOK Tryz.f219.ntmps (fun i => decide (i < Tryz.f219.ntmps)) = true := by kernel_rfl

/-- slices.EqualFunc[[]toll/api.Need,[]toll/api.Need,toll/api.Need,toll/api.Need] -/
def an_z89 : Ann := ⟨[(0, [0, 1, 2]), (1, [0, 1, 2, 14]), (2, [6]), (3, [1, 2, 15, 16, 17]), (4, [1, 2, 15, 16, 17, 18]), (5, [1, 2, 7, 8, 15, 16, 17]), (6, [1, 2, 8, 9, 15, 16, 17]), (7, [1, 2, 15, 16, 17, 30]), (8, [6]), (9, [1, 2, 15, 16, 17]), (10, [6])], [], []⟩
def ac_z89 : AC := (.seq (.region [.mk none (some 6) (.mv (.const (.bool false)))] (some [0, 1, 2])) (.seq (.seq (.region [.mk none (some 10) (.mv (.tmp 0)), .mk none (some 11) (.len (.tmp 10) false), .mk none (some 12) (.mv (.tmp 1)), .mk none (some 13) (.len (.tmp 12) false), .mk none (some 14) (.bin .neq (.tmp 11) (.tmp 13))] (some [0, 1, 2, 14])) (.cond (.tmp 14) (.seq (.region [.mk none (some 6) (.mv (.const (.bool false)))] (some [6])) .ret) .skip)) (.seq (.seq (.region [.mk none (some 15) (.mv (.tmp 0)), .mk none (some 16) (.len (.tmp 15) false), .mk none (some 17) (.mv (.const (.int .i64 0)))] (some [1, 2, 15, 16, 17])) (.block 0 (.loop (.seq (.region [.mk none (some 18) (.bin .lss (.tmp 17) (.tmp 16))] (some [1, 2, 15, 16, 17, 18])) (.seq (.cond (.tmp 18) .skip (.exit 0)) (.seq (.block 1 (.seq (.region [.mk none (some 19) (.mv (.tmp 17)), .mk none (some 20) (.idxA 3 (.tmp 15) (.tmp 17)), .mk none (some 21) (.load (some 3) (.tmp 20)), .mk none (some 8) (.alloc 137 [.pd (.raw (.int .i64 0)), .pd (.raw (.string ⟨#[]⟩)), .nils]), .mk none (some 7) (.mv (.tmp 19)), .mk none none (.store 3 (.tmp 8) (.tmp 21))] (some [1, 2, 7, 8, 15, 16, 17])) (.seq (.region [.mk none (some 22) (.mv (.tmp 1)), .mk none (some 23) (.mv (.tmp 7)), .mk none (some 24) (.idxA 3 (.tmp 22) (.tmp 23)), .mk none (some 25) (.load (some 3) (.tmp 24)), .mk none (some 9) (.alloc 137 [.pd (.raw (.int .i64 0)), .pd (.raw (.string ⟨#[]⟩)), .nils]), .mk none none (.store 3 (.tmp 9) (.tmp 25))] (some [1, 2, 8, 9, 15, 16, 17])) (.seq (.region [.mk none (some 26) (.mv (.tmp 2)), .mk none (some 27) (.load (some 3) (.tmp 8)), .mk none (some 28) (.load (some 3) (.tmp 9)), .mk none (some 29) (.callv (.tmp 26) [.tmp 27, .tmp 28]), .mk none (some 30) (.un .not (.tmp 29))] (some [1, 2, 15, 16, 17, 30])) (.cond (.tmp 30) (.seq (.region [.mk none (some 6) (.mv (.const (.bool false)))] (some [6])) .ret) .skip))))) (.region [.mk none (some 31) (.bin .add (.tmp 17) (.const (.int .i64 1))), .mk none (some 17) (.mv (.tmp 31))] (some [1, 2, 15, 16, 17])))))))) (.seq (.region [.mk none (some 6) (.mv (.const (.bool true)))] (some [6])) .ret))))
theorem ok_z89 : compC Tryz.prog an_z89 (Tryz.f221.body.getD .skip) = some ac_z89 := by kernel_rfl
theorem dst_z89 : ac_z89.dstOK Tryz.f221.ntmps (fun i => decide (i < Tryz.f221.ntmps)) = true := by kernel_rfl

/-- slices.IndexFunc[[]toll/api.Need,toll/api.Need] -/
def an_z90 : Ann := ⟨[(0, [0, 1]), (1, [0, 1, 7, 8]), (2, [0, 1, 7, 8, 9]), (3, [0, 1, 5, 7, 8]), (4, [0, 1, 5, 7, 8, 16]), (5, [4]), (6, [0, 1, 7, 8]), (7, [4])], [], []⟩
def ac_z90 : AC := (.seq (.region [.mk none (some 4) (.mv (.const (.int .i64 0)))] (some [0, 1])) (.seq (.seq (.region [.mk none (some 6) (.mv (.tmp 0)), .mk none (some 7) (.len (.tmp 6) false), .mk none (some 8) (.mv (.const (.int .i64 0)))] (some [0, 1, 7, 8])) (.block 0 (.loop (.seq (.region [.mk none (some 9) (.bin .lss (.tmp 8) (.tmp 7))] (some [0, 1, 7, 8, 9])) (.seq (.cond (.tmp 9) .skip (.exit 0)) (.seq (.block 1 (.seq (.region [.mk none (some 10) (.mv (.tmp 8)), .mk none (some 5) (.mv (.tmp 10))] (some [0, 1, 5, 7, 8])) (.seq (.region [.mk none (some 11) (.mv (.tmp 1)), .mk none (some 12) (.mv (.tmp 0)), .mk none (some 13) (.mv (.tmp 5)), .mk none (some 14) (.idxA 3 (.tmp 12) (.tmp 13)), .mk none (some 15) (.load (some 3) (.tmp 14)), .mk none (some 16) (.callv (.tmp 11) [.tmp 15])] (some [0, 1, 5, 7, 8, 16])) (.cond (.tmp 16) (.seq (.region [.mk none (some 17) (.mv (.tmp 5)), .mk none (some 4) (.mv (.tmp 17))] (some [4])) .ret) .skip)))) (.region [.mk none (some 18) (.bin .add (.tmp 8) (.const (.int .i64 1))), .mk none (some 8) (.mv (.tmp 18))] (some [0, 1, 7, 8])))))))) (.seq (.region [.mk none (some 4) (.mv (.const (.int .i64 (-1))))] (some [4])) .ret)))
theorem ok_z90 : compC Tryz.prog an_z90 (Tryz.f230.body.getD .skip) = some ac_z90 := by kernel_rfl
theorem dst_z90 : ac_z90.dstOK Tryz.f230.ntmps (fun i => decide (i < Tryz.f230.ntmps)) = true := by kernel_rfl

/-- slices.IndexFunc[[]toll/api.Match,toll/api.Match] -/
def an_z91 : Ann := ⟨[(0, [0, 1]), (1, [0, 1, 7, 8]), (2, [0, 1, 7, 8, 9]), (3, [0, 1, 5, 7, 8]), (4, [0, 1, 5, 7, 8, 16]), (5, [4]), (6, [0, 1, 7, 8]), (7, [4])], [], []⟩
def ac_z91 : AC := (.seq (.region [.mk none (some 4) (.mv (.const (.int .i64 0)))] (some [0, 1])) (.seq (.seq (.region [.mk none (some 6) (.mv (.tmp 0)), .mk none (some 7) (.len (.tmp 6) false), .mk none (some 8) (.mv (.const (.int .i64 0)))] (some [0, 1, 7, 8])) (.block 0 (.loop (.seq (.region [.mk none (some 9) (.bin .lss (.tmp 8) (.tmp 7))] (some [0, 1, 7, 8, 9])) (.seq (.cond (.tmp 9) .skip (.exit 0)) (.seq (.block 1 (.seq (.region [.mk none (some 10) (.mv (.tmp 8)), .mk none (some 5) (.mv (.tmp 10))] (some [0, 1, 5, 7, 8])) (.seq (.region [.mk none (some 11) (.mv (.tmp 1)), .mk none (some 12) (.mv (.tmp 0)), .mk none (some 13) (.mv (.tmp 5)), .mk none (some 14) (.idxA 5 (.tmp 12) (.tmp 13)), .mk none (some 15) (.load (some 5) (.tmp 14)), .mk none (some 16) (.callv (.tmp 11) [.tmp 15])] (some [0, 1, 5, 7, 8, 16])) (.cond (.tmp 16) (.seq (.region [.mk none (some 17) (.mv (.tmp 5)), .mk none (some 4) (.mv (.tmp 17))] (some [4])) .ret) .skip)))) (.region [.mk none (some 18) (.bin .add (.tmp 8) (.const (.int .i64 1))), .mk none (some 8) (.mv (.tmp 18))] (some [0, 1, 7, 8])))))))) (.seq (.region [.mk none (some 4) (.mv (.const (.int .i64 (-1))))] (some [4])) .ret)))
theorem ok_z91 : compC Tryz.prog an_z91 (Tryz.f233.body.getD .skip) = some ac_z91 := by kernel_rfl
theorem dst_z91 : ac_z91.dstOK Tryz.f233.ntmps (fun i => decide (i < Tryz.f233.ntmps)) = true := by kernel_rfl

/-- slices.IndexFunc[[]toll/api.Pair,toll/api.Pair] -/
def an_z92 : Ann := ⟨[(0, [0, 1]), (1, [0, 1, 7, 8]), (2, [0, 1, 7, 8, 9]), (3, [0, 1, 5, 7, 8]), (4, [0, 1, 5, 7, 8, 16]), (5, [4]), (6, [0, 1, 7, 8]), (7, [4])], [], []⟩
def ac_z92 : AC := (.seq (.region [.mk none (some 4) (.mv (.const (.int .i64 0)))] (some [0, 1])) (.seq (.seq (.region [.mk none (some 6) (.mv (.tmp 0)), .mk none (some 7) (.len (.tmp 6) false), .mk none (some 8) (.mv (.const (.int .i64 0)))] (some [0, 1, 7, 8])) (.block 0 (.loop (.seq (.region [.mk none (some 9) (.bin .lss (.tmp 8) (.tmp 7))] (some [0, 1, 7, 8, 9])) (.seq (.cond (.tmp 9) .skip (.exit 0)) (.seq (.block 1 (.seq (.region [.mk none (some 10) (.mv (.tmp 8)), .mk none (some 5) (.mv (.tmp 10))] (some [0, 1, 5, 7, 8])) (.seq (.region [.mk none (some 11) (.mv (.tmp 1)), .mk none (some 12) (.mv (.tmp 0)), .mk none (some 13) (.mv (.tmp 5)), .mk none (some 14) (.idxA 2 (.tmp 12) (.tmp 13)), .mk none (some 15) (.load (some 2) (.tmp 14)), .mk none (some 16) (.callv (.tmp 11) [.tmp 15])] (some [0, 1, 5, 7, 8, 16])) (.cond (.tmp 16) (.seq (.region [.mk none (some 17) (.mv (.tmp 5)), .mk none (some 4) (.mv (.tmp 17))] (some [4])) .ret) .skip)))) (.region [.mk none (some 18) (.bin .add (.tmp 8) (.const (.int .i64 1))), .mk none (some 8) (.mv (.tmp 18))] (some [0, 1, 7, 8])))))))) (.seq (.region [.mk none (some 4) (.mv (.const (.int .i64 (-1))))] (some [4])) .ret)))
theorem ok_z92 : compC Tryz.prog an_z92 (Tryz.f239.body.getD .skip) = some ac_z92 := by kernel_rfl
theorem dst_z92 : ac_z92.dstOK Tryz.f239.ntmps (fun i => decide (i < Tryz.f239.ntmps)) = true := by kernel_rfl

/-- slices.IndexFunc[[]toll/api.Filter,toll/api.Filter] -/
def an_z93 : Ann := ⟨[(0, [0, 1]), (1, [0, 1, 7, 8]), (2, [0, 1, 7, 8, 9]), (3, [0, 1, 5, 7, 8]), (4, [0, 1, 5, 7, 8, 16]), (5, [4]), (6, [0, 1, 7, 8]), (7, [4])], [], []⟩
def ac_z93 : AC := (.seq (.region [.mk none (some 4) (.mv (.const (.int .i64 0)))] (some [0, 1])) (.seq (.seq (.region [.mk none (some 6) (.mv (.tmp 0)), .mk none (some 7) (.len (.tmp 6) false), .mk none (some 8) (.mv (.const (.int .i64 0)))] (some [0, 1, 7, 8])) (.block 0 (.loop (.seq (.region [.mk none (some 9) (.bin .lss (.tmp 8) (.tmp 7))] (some [0, 1, 7, 8, 9])) (.seq (.cond (.tmp 9) .skip (.exit 0)) (.seq (.block 1 (.seq (.region [.mk none (some 10) (.mv (.tmp 8)), .mk none (some 5) (.mv (.tmp 10))] (some [0, 1, 5, 7, 8])) (.seq (.region [.mk none (some 11) (.mv (.tmp 1)), .mk none (some 12) (.mv (.tmp 0)), .mk none (some 13) (.mv (.tmp 5)), .mk none (some 14) (.idxA 8 (.tmp 12) (.tmp 13)), .mk none (some 15) (.load (some 8) (.tmp 14)), .mk none (some 16) (.callv (.tmp 11) [.tmp 15])] (some [0, 1, 5, 7, 8, 16])) (.cond (.tmp 16) (.seq (.region [.mk none (some 17) (.mv (.tmp 5)), .mk none (some 4) (.mv (.tmp 17))] (some [4])) .ret) .skip)))) (.region [.mk none (some 18) (.bin .add (.tmp 8) (.const (.int .i64 1))), .mk none (some 8) (.mv (.tmp 18))] (some [0, 1, 7, 8])))))))) (.seq (.region [.mk none (some 4) (.mv (.const (.int .i64 (-1))))] (some [4])) .ret)))
theorem ok_z93 : compC Tryz.prog an_z93 (Tryz.f243.body.getD .skip) = some ac_z93 := by kernel_rfl
theorem dst_z93 : ac_z93.dstOK Tryz.f243.ntmps (fun i => decide (i < Tryz.f243.ntmps)) = true := by kernel_rfl

/-- slices.IndexFunc[[]toll/api.Backend,toll/api.Backend] -/
def an_z94 : Ann := ⟨[(0, [0, 1]), (1, [0, 1, 7, 8]), (2, [0, 1, 7, 8, 9]), (3, [0, 1, 5, 7, 8]), (4, [0, 1, 5, 7, 8, 16]), (5, [4]), (6, [0, 1, 7, 8]), (7, [4])], [], []⟩
def ac_z94 : AC := (.seq (.region [.mk none (some 4) (.mv (.const (.int .i64 0)))] (some [0, 1])) (.seq (.seq (.region [.mk none (some 6) (.mv (.tmp 0)), .mk none (some 7) (.len (.tmp 6) false), .mk none (some 8) (.mv (.const (.int .i64 0)))] (some [0, 1, 7, 8])) (.block 0 (.loop (.seq (.region [.mk none (some 9) (.bin .lss (.tmp 8) (.tmp 7))] (some [0, 1, 7, 8, 9])) (.seq (.cond (.tmp 9) .skip (.exit 0)) (.seq (.block 1 (.seq (.region [.mk none (some 10) (.mv (.tmp 8)), .mk none (some 5) (.mv (.tmp 10))] (some [0, 1, 5, 7, 8])) (.seq (.region [.mk none (some 11) (.mv (.tmp 1)), .mk none (some 12) (.mv (.tmp 0)), .mk none (some 13) (.mv (.tmp 5)), .mk none (some 14) (.idxA 5 (.tmp 12) (.tmp 13)), .mk none (some 15) (.load (some 5) (.tmp 14)), .mk none (some 16) (.callv (.tmp 11) [.tmp 15])] (some [0, 1, 5, 7, 8, 16])) (.cond (.tmp 16) (.seq (.region [.mk none (some 17) (.mv (.tmp 5)), .mk none (some 4) (.mv (.tmp 17))] (some [4])) .ret) .skip)))) (.region [.mk none (some 18) (.bin .add (.tmp 8) (.const (.int .i64 1))), .mk none (some 8) (.mv (.tmp 18))] (some [0, 1, 7, 8])))))))) (.seq (.region [.mk none (some 4) (.mv (.const (.int .i64 (-1))))] (some [4])) .ret)))
theorem ok_z94 : compC Tryz.prog an_z94 (Tryz.f244.body.getD .skip) = some ac_z94 := by kernel_rfl
theorem dst_z94 : ac_z94.dstOK Tryz.f244.ntmps (fun i => decide (i < Tryz.f244.ntmps)) = true := by kernel_rfl


end Go.Proofs.YtjhomppadppfnaaGreatDoor

namespace Go.Proofs.YtjhomppadppfnaaGreatDoor
open Go Go.RowKit
set_option linter.unusedSimpArgs false
set_option linter.unusedVariables false
set_option maxRecDepth 100000

theorem IndexFunc_Object (p : AObj → Bool) (g : FuncId) (he : Enters Tryz.prog g) (caps : List (Nat × Nat)) (bs : List (Nat × List D)) (hc : Cl bs caps) (l : List AObj) (hl : l.length ≤ 1000000)
    (hp : ∀ x ∈ l, PureB Tryz.prog g (AObj.d x :: capD caps) bs (fun d => d = bln (p x))) :
    PureB Tryz.prog 67 [.pd (.slice (rows AObj.pd l)), .fn g caps] bs (fun d => d = int (lidx p l 0)) := by
  refine pureB_of_run follows an_z35 Tryz.func67 rfl ok_z35 dst_z35 (by simp [Tryz.ntmps67]) ?_
  rw [run_start]
  simp only [ac_z35, go_sem, contS_seq, simprocAttr, rows_len]
  refine loopS (fun k st => ∃ i : Nat, k = l.length - i ∧ i ≤ l.length ∧ lidx p (l.drop i) i = lidx p l 0 ∧
    st = ⟨[(0, .pd (.slice (rows AObj.pd l))), (1, .fn g caps), (7, int l.length), (8, int i)], bs, [], .no⟩) l.length _ (Weak.refl _ _) ⟨0, rfl, Nat.zero_le _, rfl, rfl⟩ ?_
  rintro k st ⟨i, rfl, hi, hr, rfl⟩
  by_cases hlt : i < l.length
  · obtain ⟨x, hx⟩ := at_lt hlt
    have hlt' : ((i : Int) < (l.length : Int)) = True := eq_true (by omega)
    have hw := i64_succ (show i < 1000000000 by omega)
    rw [drop_at hx, lidx] at hr
    simp only [go_sem, contS_seq, simprocAttr, hlt', rows_get hx]
    refine (hp x (List.mem_of_getElem? hx)).callW he _ (idr bs) hc.ok (hc.args (by rfl)) hc.see ?_
    rintro d rfl
    simp only [go_sem, contS_seq, simprocAttr]
    refine Gif.mk (fun h => ?_) (fun h => ?_)
    · rw [if_pos h] at hr
      simp only [retK, fullK, iterK, resD, resA, AOp.ex, St.ev, Option.map_some, Option.bind_some, St.get, lk, reduceIte, Nat.reduceEqDiff, Option.getD_some, oneD, List.getElem?_cons_zero, List.getElem?_cons_succ, List.drop_zero, List.drop_succ_cons, List.take_succ_cons, List.take_zero, List.length_cons, List.length_nil, Nat.zero_add, Nat.reduceAdd, Nat.le_refl, Nat.reduceLeDiff, D.pub, D.pubs, Tryz.results67]
      exact ⟨_, rfl, rfl, congrArg int hr⟩
    · rw [if_neg (by simp [h])] at hr
      simp only [go_sem, contS_seq, simprocAttr, hw]
      refine ⟨l.length - (i + 1), _, ?_, ?_, i + 1, rfl, ?_, hr, rfl⟩
      · omega
      · exact Weak.less (by simp [lessL, lk]) (lessL_refl hc.nd) (by simp [lessL, lk]) rfl
      · omega
  · have hlt' : ((i : Int) < (l.length : Int)) = False := eq_false (by omega)
    rw [List.drop_eq_nil_of_le (by omega), lidx] at hr
    simp only [go_sem, contS_seq, simprocAttr, rows_len, hlt']
    simp only [retK, fullK, iterK, resD, resA, AOp.ex, St.ev, Option.map_some, Option.bind_some, St.get, lk, reduceIte, Nat.reduceEqDiff, Option.getD_some, oneD, List.getElem?_cons_zero, List.getElem?_cons_succ, List.drop_zero, List.drop_succ_cons, List.take_succ_cons, List.take_zero, List.length_cons, List.length_nil, Nat.zero_add, Nat.reduceAdd, Nat.le_refl, Nat.reduceLeDiff, D.pub, D.pubs, Tryz.results67]
    exact ⟨_, rfl, rfl, congrArg int hr⟩

theorem IndexFunc_Side (p : ASide → Bool) (g : FuncId) (he : Enters Tryz.prog g) (caps : List (Nat × Nat)) (bs : List (Nat × List D)) (hc : Cl bs caps) (l : List ASide) (hl : l.length ≤ 1000000)
    (hp : ∀ x ∈ l, PureB Tryz.prog g (ASide.d x :: capD caps) bs (fun d => d = bln (p x))) :
    PureB Tryz.prog 92 [.pd (.slice (rows ASide.pd l)), .fn g caps] bs (fun d => d = int (lidx p l 0)) := by
  refine pureB_of_run follows an_z37 Tryz.func92 rfl ok_z37 dst_z37 (by simp [Tryz.ntmps92]) ?_
  rw [run_start]
  simp only [ac_z37, go_sem, contS_seq, simprocAttr, rows_len]
  refine loopS (fun k st => ∃ i : Nat, k = l.length - i ∧ i ≤ l.length ∧ lidx p (l.drop i) i = lidx p l 0 ∧
    st = ⟨[(0, .pd (.slice (rows ASide.pd l))), (1, .fn g caps), (7, int l.length), (8, int i)], bs, [], .no⟩) l.length _ (Weak.refl _ _) ⟨0, rfl, Nat.zero_le _, rfl, rfl⟩ ?_
  rintro k st ⟨i, rfl, hi, hr, rfl⟩
  by_cases hlt : i < l.length
  · obtain ⟨x, hx⟩ := at_lt hlt
    have hlt' : ((i : Int) < (l.length : Int)) = True := eq_true (by omega)
    have hw := i64_succ (show i < 1000000000 by omega)
    rw [drop_at hx, lidx] at hr
    simp only [go_sem, contS_seq, simprocAttr, hlt', rows_get hx]
    refine (hp x (List.mem_of_getElem? hx)).callW he _ (idr bs) hc.ok (hc.args (by rfl)) hc.see ?_
    rintro d rfl
    simp only [go_sem, contS_seq, simprocAttr]
    refine Gif.mk (fun h => ?_) (fun h => ?_)
    · rw [if_pos h] at hr
      simp only [retK, fullK, iterK, resD, resA, AOp.ex, St.ev, Option.map_some, Option.bind_some, St.get, lk, reduceIte, Nat.reduceEqDiff, Option.getD_some, oneD, List.getElem?_cons_zero, List.getElem?_cons_succ, List.drop_zero, List.drop_succ_cons, List.take_succ_cons, List.take_zero, List.length_cons, List.length_nil, Nat.zero_add, Nat.reduceAdd, Nat.le_refl, Nat.reduceLeDiff, D.pub, D.pubs, Tryz.results92]
      exact ⟨_, rfl, rfl, congrArg int hr⟩
    · rw [if_neg (by simp [h])] at hr
      simp only [go_sem, contS_seq, simprocAttr, hw]
      refine ⟨l.length - (i + 1), _, ?_, ?_, i + 1, rfl, ?_, hr, rfl⟩
      · omega
      · exact Weak.less (by simp [lessL, lk]) (lessL_refl hc.nd) (by simp [lessL, lk]) rfl
      · omega
  · have hlt' : ((i : Int) < (l.length : Int)) = False := eq_false (by omega)
    rw [List.drop_eq_nil_of_le (by omega), lidx] at hr
    simp only [go_sem, contS_seq, simprocAttr, rows_len, hlt']
    simp only [retK, fullK, iterK, resD, resA, AOp.ex, St.ev, Option.map_some, Option.bind_some, St.get, lk, reduceIte, Nat.reduceEqDiff, Option.getD_some, oneD, List.getElem?_cons_zero, List.getElem?_cons_succ, List.drop_zero, List.drop_succ_cons, List.take_succ_cons, List.take_zero, List.length_cons, List.length_nil, Nat.zero_add, Nat.reduceAdd, Nat.le_refl, Nat.reduceLeDiff, D.pub, D.pubs, Tryz.results92]
    exact ⟨_, rfl, rfl, congrArg int hr⟩

theorem IndexFunc_int (p : Int → Bool) (g : FuncId) (he : Enters Tryz.prog g) (caps : List (Nat × Nat)) (bs : List (Nat × List D)) (hc : Cl bs caps) (l : List Int) (hl : l.length ≤ 1000000)
    (hp : ∀ x ∈ l, PureB Tryz.prog g (int x :: capD caps) bs (fun d => d = bln (p x))) :
    PureB Tryz.prog 191 [.pd (.slice (rows cInt l)), .fn g caps] bs (fun d => d = int (lidx p l 0)) := by
  refine pureB_of_run follows an_z77 Tryz.func191 rfl ok_z77 dst_z77 (by simp [Tryz.ntmps191]) ?_
  rw [run_start]
  simp only [ac_z77, go_sem, contS_seq, simprocAttr, rows_len]
  refine loopS (fun k st => ∃ i : Nat, k = l.length - i ∧ i ≤ l.length ∧ lidx p (l.drop i) i = lidx p l 0 ∧
    st = ⟨[(0, .pd (.slice (rows cInt l))), (1, .fn g caps), (7, int l.length), (8, int i)], bs, [], .no⟩) l.length _ (Weak.refl _ _) ⟨0, rfl, Nat.zero_le _, rfl, rfl⟩ ?_
  rintro k st ⟨i, rfl, hi, hr, rfl⟩
  by_cases hlt : i < l.length
  · obtain ⟨x, hx⟩ := at_lt hlt
    have hlt' : ((i : Int) < (l.length : Int)) = True := eq_true (by omega)
    have hw := i64_succ (show i < 1000000000 by omega)
    rw [drop_at hx, lidx] at hr
    simp only [go_sem, contS_seq, simprocAttr, hlt', rows_get hx]
    refine (hp x (List.mem_of_getElem? hx)).callW he _ (idr bs) hc.ok (hc.args (by rfl)) hc.see ?_
    rintro d rfl
    simp only [go_sem, contS_seq, simprocAttr]
    refine Gif.mk (fun h => ?_) (fun h => ?_)
    · rw [if_pos h] at hr
      simp only [retK, fullK, iterK, resD, resA, AOp.ex, St.ev, Option.map_some, Option.bind_some, St.get, lk, reduceIte, Nat.reduceEqDiff, Option.getD_some, oneD, List.getElem?_cons_zero, List.getElem?_cons_succ, List.drop_zero, List.drop_succ_cons, List.take_succ_cons, List.take_zero, List.length_cons, List.length_nil, Nat.zero_add, Nat.reduceAdd, Nat.le_refl, Nat.reduceLeDiff, D.pub, D.pubs, Tryz.results191]
      exact ⟨_, rfl, rfl, congrArg int hr⟩
    · rw [if_neg (by simp [h])] at hr
      simp only [go_sem, contS_seq, simprocAttr, hw]
      refine ⟨l.length - (i + 1), _, ?_, ?_, i + 1, rfl, ?_, hr, rfl⟩
      · omega
      · exact Weak.less (by simp [lessL, lk]) (lessL_refl hc.nd) (by simp [lessL, lk]) rfl
      · omega
  · have hlt' : ((i : Int) < (l.length : Int)) = False := eq_false (by omega)
    rw [List.drop_eq_nil_of_le (by omega), lidx] at hr
    simp only [go_sem, contS_seq, simprocAttr, rows_len, hlt']
    simp only [retK, fullK, iterK, resD, resA, AOp.ex, St.ev, Option.map_some, Option.bind_some, St.get, lk, reduceIte, Nat.reduceEqDiff, Option.getD_some, oneD, List.getElem?_cons_zero, List.getElem?_cons_succ, List.drop_zero, List.drop_succ_cons, List.take_succ_cons, List.take_zero, List.length_cons, List.length_nil, Nat.zero_add, Nat.reduceAdd, Nat.le_refl, Nat.reduceLeDiff, D.pub, D.pubs, Tryz.results191]
    exact ⟨_, rfl, rfl, congrArg int hr⟩

theorem IndexFunc_Listener (p : AListener → Bool) (g : FuncId) (he : Enters Tryz.prog g) (caps : List (Nat × Nat)) (bs : List (Nat × List D)) (hc : Cl bs caps) (l : List AListener) (hl : l.length ≤ 1000000)
    (hp : ∀ x ∈ l, PureB Tryz.prog g (AListener.d x :: capD caps) bs (fun d => d = bln (p x))) :
    PureB Tryz.prog 194 [.pd (.slice (rows AListener.pd l)), .fn g caps] bs (fun d => d = int (lidx p l 0)) := by
  refine pureB_of_run follows an_z78 Tryz.func194 rfl ok_z78 dst_z78 (by simp [Tryz.ntmps194]) ?_
  rw [run_start]
  simp only [ac_z78, go_sem, contS_seq, simprocAttr, rows_len]
  refine loopS (fun k st => ∃ i : Nat, k = l.length - i ∧ i ≤ l.length ∧ lidx p (l.drop i) i = lidx p l 0 ∧
    st = ⟨[(0, .pd (.slice (rows AListener.pd l))), (1, .fn g caps), (7, int l.length), (8, int i)], bs, [], .no⟩) l.length _ (Weak.refl _ _) ⟨0, rfl, Nat.zero_le _, rfl, rfl⟩ ?_
  rintro k st ⟨i, rfl, hi, hr, rfl⟩
  by_cases hlt : i < l.length
  · obtain ⟨x, hx⟩ := at_lt hlt
    have hlt' : ((i : Int) < (l.length : Int)) = True := eq_true (by omega)
    have hw := i64_succ (show i < 1000000000 by omega)
    rw [drop_at hx, lidx] at hr
    simp only [go_sem, contS_seq, simprocAttr, hlt', rows_get hx]
    refine (hp x (List.mem_of_getElem? hx)).callW he _ (idr bs) hc.ok (hc.args (by rfl)) hc.see ?_
    rintro d rfl
    simp only [go_sem, contS_seq, simprocAttr]
    refine Gif.mk (fun h => ?_) (fun h => ?_)
    · rw [if_pos h] at hr
      simp only [retK, fullK, iterK, resD, resA, AOp.ex, St.ev, Option.map_some, Option.bind_some, St.get, lk, reduceIte, Nat.reduceEqDiff, Option.getD_some, oneD, List.getElem?_cons_zero, List.getElem?_cons_succ, List.drop_zero, List.drop_succ_cons, List.take_succ_cons, List.take_zero, List.length_cons, List.length_nil, Nat.zero_add, Nat.reduceAdd, Nat.le_refl, Nat.reduceLeDiff, D.pub, D.pubs, Tryz.results194]
      exact ⟨_, rfl, rfl, congrArg int hr⟩
    · rw [if_neg (by simp [h])] at hr
      simp only [go_sem, contS_seq, simprocAttr, hw]
      refine ⟨l.length - (i + 1), _, ?_, ?_, i + 1, rfl, ?_, hr, rfl⟩
      · omega
      · exact Weak.less (by simp [lessL, lk]) (lessL_refl hc.nd) (by simp [lessL, lk]) rfl
      · omega
  · have hlt' : ((i : Int) < (l.length : Int)) = False := eq_false (by omega)
    rw [List.drop_eq_nil_of_le (by omega), lidx] at hr
    simp only [go_sem, contS_seq, simprocAttr, rows_len, hlt']
    simp only [retK, fullK, iterK, resD, resA, AOp.ex, St.ev, Option.map_some, Option.bind_some, St.get, lk, reduceIte, Nat.reduceEqDiff, Option.getD_some, oneD, List.getElem?_cons_zero, List.getElem?_cons_succ, List.drop_zero, List.drop_succ_cons, List.take_succ_cons, List.take_zero, List.length_cons, List.length_nil, Nat.zero_add, Nat.reduceAdd, Nat.le_refl, Nat.reduceLeDiff, D.pub, D.pubs, Tryz.results194]
    exact ⟨_, rfl, rfl, congrArg int hr⟩

theorem IndexFunc_Need (p : ANeed → Bool) (g : FuncId) (he : Enters Tryz.prog g) (caps : List (Nat × Nat)) (bs : List (Nat × List D)) (hc : Cl bs caps) (l : List ANeed) (hl : l.length ≤ 1000000)
    (hp : ∀ x ∈ l, PureB Tryz.prog g (ANeed.d x :: capD caps) bs (fun d => d = bln (p x))) :
    PureB Tryz.prog 230 [.pd (.slice (rows ANeed.pd l)), .fn g caps] bs (fun d => d = int (lidx p l 0)) := by
  refine pureB_of_run follows an_z90 Tryz.func230 rfl ok_z90 dst_z90 (by simp [Tryz.ntmps230]) ?_
  rw [run_start]
  simp only [ac_z90, go_sem, contS_seq, simprocAttr, rows_len]
  refine loopS (fun k st => ∃ i : Nat, k = l.length - i ∧ i ≤ l.length ∧ lidx p (l.drop i) i = lidx p l 0 ∧
    st = ⟨[(0, .pd (.slice (rows ANeed.pd l))), (1, .fn g caps), (7, int l.length), (8, int i)], bs, [], .no⟩) l.length _ (Weak.refl _ _) ⟨0, rfl, Nat.zero_le _, rfl, rfl⟩ ?_
  rintro k st ⟨i, rfl, hi, hr, rfl⟩
  by_cases hlt : i < l.length
  · obtain ⟨x, hx⟩ := at_lt hlt
    have hlt' : ((i : Int) < (l.length : Int)) = True := eq_true (by omega)
    have hw := i64_succ (show i < 1000000000 by omega)
    rw [drop_at hx, lidx] at hr
    simp only [go_sem, contS_seq, simprocAttr, hlt', rows_get hx]
    refine (hp x (List.mem_of_getElem? hx)).callW he _ (idr bs) hc.ok (hc.args (by rfl)) hc.see ?_
    rintro d rfl
    simp only [go_sem, contS_seq, simprocAttr]
    refine Gif.mk (fun h => ?_) (fun h => ?_)
    · rw [if_pos h] at hr
      simp only [retK, fullK, iterK, resD, resA, AOp.ex, St.ev, Option.map_some, Option.bind_some, St.get, lk, reduceIte, Nat.reduceEqDiff, Option.getD_some, oneD, List.getElem?_cons_zero, List.getElem?_cons_succ, List.drop_zero, List.drop_succ_cons, List.take_succ_cons, List.take_zero, List.length_cons, List.length_nil, Nat.zero_add, Nat.reduceAdd, Nat.le_refl, Nat.reduceLeDiff, D.pub, D.pubs, Tryz.results230]
      exact ⟨_, rfl, rfl, congrArg int hr⟩
    · rw [if_neg (by simp [h])] at hr
      simp only [go_sem, contS_seq, simprocAttr, hw]
      refine ⟨l.length - (i + 1), _, ?_, ?_, i + 1, rfl, ?_, hr, rfl⟩
      · omega
      · exact Weak.less (by simp [lessL, lk]) (lessL_refl hc.nd) (by simp [lessL, lk]) rfl
      · omega
  · have hlt' : ((i : Int) < (l.length : Int)) = False := eq_false (by omega)
    rw [List.drop_eq_nil_of_le (by omega), lidx] at hr
    simp only [go_sem, contS_seq, simprocAttr, rows_len, hlt']
    simp only [retK, fullK, iterK, resD, resA, AOp.ex, St.ev, Option.map_some, Option.bind_some, St.get, lk, reduceIte, Nat.reduceEqDiff, Option.getD_some, oneD, List.getElem?_cons_zero, List.getElem?_cons_succ, List.drop_zero, List.drop_succ_cons, List.take_succ_cons, List.take_zero, List.length_cons, List.length_nil, Nat.zero_add, Nat.reduceAdd, Nat.le_refl, Nat.reduceLeDiff, D.pub, D.pubs, Tryz.results230]
    exact ⟨_, rfl, rfl, congrArg int hr⟩

theorem IndexFunc_Parent (p : AParent → Bool) (g : FuncId) (he : Enters Tryz.prog g) (caps : List (Nat × Nat)) (bs : List (Nat × List D)) (hc : Cl bs caps) (l : List AParent) (hl : l.length ≤ 1000000)
    (hp : ∀ x ∈ l, PureB Tryz.prog g (AParent.d x :: capD caps) bs (fun d => d = bln (p x))) :
    PureB Tryz.prog 198 [.pd (.slice (rows AParent.pd l)), .fn g caps] bs (fun d => d = int (lidx p l 0)) := by
  refine pureB_of_run follows an_z80 Tryz.func198 rfl ok_z80 dst_z80 (by simp [Tryz.ntmps198]) ?_
  rw [run_start]
  simp only [ac_z80, go_sem, contS_seq, simprocAttr, rows_len]
  refine loopS (fun k st => ∃ i : Nat, k = l.length - i ∧ i ≤ l.length ∧ lidx p (l.drop i) i = lidx p l 0 ∧
    st = ⟨[(0, .pd (.slice (rows AParent.pd l))), (1, .fn g caps), (7, int l.length), (8, int i)], bs, [], .no⟩) l.length _ (Weak.refl _ _) ⟨0, rfl, Nat.zero_le _, rfl, rfl⟩ ?_
  rintro k st ⟨i, rfl, hi, hr, rfl⟩
  by_cases hlt : i < l.length
  · obtain ⟨x, hx⟩ := at_lt hlt
    have hlt' : ((i : Int) < (l.length : Int)) = True := eq_true (by omega)
    have hw := i64_succ (show i < 1000000000 by omega)
    rw [drop_at hx, lidx] at hr
    simp only [go_sem, contS_seq, simprocAttr, hlt', rows_get hx]
    refine (hp x (List.mem_of_getElem? hx)).callW he _ (idr bs) hc.ok (hc.args (by rfl)) hc.see ?_
    rintro d rfl
    simp only [go_sem, contS_seq, simprocAttr]
    refine Gif.mk (fun h => ?_) (fun h => ?_)
    · rw [if_pos h] at hr
      simp only [retK, fullK, iterK, resD, resA, AOp.ex, St.ev, Option.map_some, Option.bind_some, St.get, lk, reduceIte, Nat.reduceEqDiff, Option.getD_some, oneD, List.getElem?_cons_zero, List.getElem?_cons_succ, List.drop_zero, List.drop_succ_cons, List.take_succ_cons, List.take_zero, List.length_cons, List.length_nil, Nat.zero_add, Nat.reduceAdd, Nat.le_refl, Nat.reduceLeDiff, D.pub, D.pubs, Tryz.results198]
      exact ⟨_, rfl, rfl, congrArg int hr⟩
    · rw [if_neg (by simp [h])] at hr
      simp only [go_sem, contS_seq, simprocAttr, hw]
      refine ⟨l.length - (i + 1), _, ?_, ?_, i + 1, rfl, ?_, hr, rfl⟩
      · omega
      · exact Weak.less (by simp [lessL, lk]) (lessL_refl hc.nd) (by simp [lessL, lk]) rfl
      · omega
  · have hlt' : ((i : Int) < (l.length : Int)) = False := eq_false (by omega)
    rw [List.drop_eq_nil_of_le (by omega), lidx] at hr
    simp only [go_sem, contS_seq, simprocAttr, rows_len, hlt']
    simp only [retK, fullK, iterK, resD, resA, AOp.ex, St.ev, Option.map_some, Option.bind_some, St.get, lk, reduceIte, Nat.reduceEqDiff, Option.getD_some, oneD, List.getElem?_cons_zero, List.getElem?_cons_succ, List.drop_zero, List.drop_succ_cons, List.take_succ_cons, List.take_zero, List.length_cons, List.length_nil, Nat.zero_add, Nat.reduceAdd, Nat.le_refl, Nat.reduceLeDiff, D.pub, D.pubs, Tryz.results198]
    exact ⟨_, rfl, rfl, congrArg int hr⟩

theorem IndexFunc_string (p : ByteArray → Bool) (g : FuncId) (he : Enters Tryz.prog g) (caps : List (Nat × Nat)) (bs : List (Nat × List D)) (hc : Cl bs caps) (l : List ByteArray) (hl : l.length ≤ 1000000)
    (hp : ∀ x ∈ l, PureB Tryz.prog g (str x :: capD caps) bs (fun d => d = bln (p x))) :
    PureB Tryz.prog 199 [.pd (.slice (rows cStr l)), .fn g caps] bs (fun d => d = int (lidx p l 0)) := by
  refine pureB_of_run follows an_z81 Tryz.func199 rfl ok_z81 dst_z81 (by simp [Tryz.ntmps199]) ?_
  rw [run_start]
  simp only [ac_z81, go_sem, contS_seq, simprocAttr, rows_len]
  refine loopS (fun k st => ∃ i : Nat, k = l.length - i ∧ i ≤ l.length ∧ lidx p (l.drop i) i = lidx p l 0 ∧
    st = ⟨[(0, .pd (.slice (rows cStr l))), (1, .fn g caps), (7, int l.length), (8, int i)], bs, [], .no⟩) l.length _ (Weak.refl _ _) ⟨0, rfl, Nat.zero_le _, rfl, rfl⟩ ?_
  rintro k st ⟨i, rfl, hi, hr, rfl⟩
  by_cases hlt : i < l.length
  · obtain ⟨x, hx⟩ := at_lt hlt
    have hlt' : ((i : Int) < (l.length : Int)) = True := eq_true (by omega)
    have hw := i64_succ (show i < 1000000000 by omega)
    rw [drop_at hx, lidx] at hr
    simp only [go_sem, contS_seq, simprocAttr, hlt', rows_get hx]
    refine (hp x (List.mem_of_getElem? hx)).callW he _ (idr bs) hc.ok (hc.args (by rfl)) hc.see ?_
    rintro d rfl
    simp only [go_sem, contS_seq, simprocAttr]
    refine Gif.mk (fun h => ?_) (fun h => ?_)
    · rw [if_pos h] at hr
      simp only [retK, fullK, iterK, resD, resA, AOp.ex, St.ev, Option.map_some, Option.bind_some, St.get, lk, reduceIte, Nat.reduceEqDiff, Option.getD_some, oneD, List.getElem?_cons_zero, List.getElem?_cons_succ, List.drop_zero, List.drop_succ_cons, List.take_succ_cons, List.take_zero, List.length_cons, List.length_nil, Nat.zero_add, Nat.reduceAdd, Nat.le_refl, Nat.reduceLeDiff, D.pub, D.pubs, Tryz.results199]
      exact ⟨_, rfl, rfl, congrArg int hr⟩
    · rw [if_neg (by simp [h])] at hr
      simp only [go_sem, contS_seq, simprocAttr, hw]
      refine ⟨l.length - (i + 1), _, ?_, ?_, i + 1, rfl, ?_, hr, rfl⟩
      · omega
      · exact Weak.less (by simp [lessL, lk]) (lessL_refl hc.nd) (by simp [lessL, lk]) rfl
      · omega
  · have hlt' : ((i : Int) < (l.length : Int)) = False := eq_false (by omega)
    rw [List.drop_eq_nil_of_le (by omega), lidx] at hr
    simp only [go_sem, contS_seq, simprocAttr, rows_len, hlt']
    simp only [retK, fullK, iterK, resD, resA, AOp.ex, St.ev, Option.map_some, Option.bind_some, St.get, lk, reduceIte, Nat.reduceEqDiff, Option.getD_some, oneD, List.getElem?_cons_zero, List.getElem?_cons_succ, List.drop_zero, List.drop_succ_cons, List.take_succ_cons, List.take_zero, List.length_cons, List.length_nil, Nat.zero_add, Nat.reduceAdd, Nat.le_refl, Nat.reduceLeDiff, D.pub, D.pubs, Tryz.results199]
    exact ⟨_, rfl, rfl, congrArg int hr⟩


theorem IndexFunc_Rule (p : ARule → Bool) (g : FuncId) (he : Enters Tryz.prog g) (caps : List (Nat × Nat)) (bs : List (Nat × List D)) (hc : Cl bs caps) (l : List ARule) (hl : l.length ≤ 1000000)
    (hp : ∀ x ∈ l, PureB Tryz.prog g (ARule.d x :: capD caps) bs (fun d => d = bln (p x))) :
    PureB Tryz.prog 201 [.pd (.slice (rows ARule.pd l)), .fn g caps] bs (fun d => d = int (lidx p l 0)) := by
  refine pureB_of_run follows an_z82 Tryz.func201 rfl ok_z82 dst_z82 (by simp [Tryz.ntmps201]) ?_
  rw [run_start]
  simp only [ac_z82, go_sem, contS_seq, simprocAttr, rows_len]
  refine loopS (fun k st => ∃ i : Nat, k = l.length - i ∧ i ≤ l.length ∧ lidx p (l.drop i) i = lidx p l 0 ∧
    st = ⟨[(0, .pd (.slice (rows ARule.pd l))), (1, .fn g caps), (7, int l.length), (8, int i)], bs, [], .no⟩) l.length _ (Weak.refl _ _) ⟨0, rfl, Nat.zero_le _, rfl, rfl⟩ ?_
  rintro k st ⟨i, rfl, hi, hr, rfl⟩
  by_cases hlt : i < l.length
  · obtain ⟨x, hx⟩ := at_lt hlt
    have hlt' : ((i : Int) < (l.length : Int)) = True := eq_true (by omega)
    have hw := i64_succ (show i < 1000000000 by omega)
    rw [drop_at hx, lidx] at hr
    simp only [go_sem, contS_seq, simprocAttr, hlt', rows_get hx]
    refine (hp x (List.mem_of_getElem? hx)).callW he _ (idr bs) hc.ok (hc.args (by rfl)) hc.see ?_
    rintro d rfl
    simp only [go_sem, contS_seq, simprocAttr]
    refine Gif.mk (fun h => ?_) (fun h => ?_)
    · rw [if_pos h] at hr
      simp only [retK, fullK, iterK, resD, resA, AOp.ex, St.ev, Option.map_some, Option.bind_some, St.get, lk, reduceIte, Nat.reduceEqDiff, Option.getD_some, oneD, List.getElem?_cons_zero, List.getElem?_cons_succ, List.drop_zero, List.drop_succ_cons, List.take_succ_cons, List.take_zero, List.length_cons, List.length_nil, Nat.zero_add, Nat.reduceAdd, Nat.le_refl, Nat.reduceLeDiff, D.pub, D.pubs, Tryz.results201]
      exact ⟨_, rfl, rfl, congrArg int hr⟩
    · rw [if_neg (by simp [h])] at hr
      simp only [go_sem, contS_seq, simprocAttr, hw]
      refine ⟨l.length - (i + 1), _, ?_, ?_, i + 1, rfl, ?_, hr, rfl⟩
      · omega
      · exact Weak.less (by simp [lessL, lk]) (lessL_refl hc.nd) (by simp [lessL, lk]) rfl
      · omega
  · have hlt' : ((i : Int) < (l.length : Int)) = False := eq_false (by omega)
    rw [List.drop_eq_nil_of_le (by omega), lidx] at hr
    simp only [go_sem, contS_seq, simprocAttr, rows_len, hlt']
    simp only [retK, fullK, iterK, resD, resA, AOp.ex, St.ev, Option.map_some, Option.bind_some, St.get, lk, reduceIte, Nat.reduceEqDiff, Option.getD_some, oneD, List.getElem?_cons_zero, List.getElem?_cons_succ, List.drop_zero, List.drop_succ_cons, List.take_succ_cons, List.take_zero, List.length_cons, List.length_nil, Nat.zero_add, Nat.reduceAdd, Nat.le_refl, Nat.reduceLeDiff, D.pub, D.pubs, Tryz.results201]
    exact ⟨_, rfl, rfl, congrArg int hr⟩

theorem IndexFunc_Match (p : AMatch → Bool) (g : FuncId) (he : Enters Tryz.prog g) (caps : List (Nat × Nat)) (bs : List (Nat × List D)) (hc : Cl bs caps) (l : List AMatch) (hl : l.length ≤ 1000000)
    (hp : ∀ x ∈ l, PureB Tryz.prog g (AMatch.d x :: capD caps) bs (fun d => d = bln (p x))) :
    PureB Tryz.prog 233 [.pd (.slice (rows AMatch.pd l)), .fn g caps] bs (fun d => d = int (lidx p l 0)) := by
  refine pureB_of_run follows an_z91 Tryz.func233 rfl ok_z91 dst_z91 (by simp [Tryz.ntmps233]) ?_
  rw [run_start]
  simp only [ac_z91, go_sem, contS_seq, simprocAttr, rows_len]
  refine loopS (fun k st => ∃ i : Nat, k = l.length - i ∧ i ≤ l.length ∧ lidx p (l.drop i) i = lidx p l 0 ∧
    st = ⟨[(0, .pd (.slice (rows AMatch.pd l))), (1, .fn g caps), (7, int l.length), (8, int i)], bs, [], .no⟩) l.length _ (Weak.refl _ _) ⟨0, rfl, Nat.zero_le _, rfl, rfl⟩ ?_
  rintro k st ⟨i, rfl, hi, hr, rfl⟩
  by_cases hlt : i < l.length
  · obtain ⟨x, hx⟩ := at_lt hlt
    have hlt' : ((i : Int) < (l.length : Int)) = True := eq_true (by omega)
    have hw := i64_succ (show i < 1000000000 by omega)
    rw [drop_at hx, lidx] at hr
    simp only [go_sem, contS_seq, simprocAttr, hlt', rows_get hx]
    refine (hp x (List.mem_of_getElem? hx)).callW he _ (idr bs) hc.ok (hc.args (by rfl)) hc.see ?_
    rintro d rfl
    simp only [go_sem, contS_seq, simprocAttr]
    refine Gif.mk (fun h => ?_) (fun h => ?_)
    · rw [if_pos h] at hr
      simp only [retK, fullK, iterK, resD, resA, AOp.ex, St.ev, Option.map_some, Option.bind_some, St.get, lk, reduceIte, Nat.reduceEqDiff, Option.getD_some, oneD, List.getElem?_cons_zero, List.getElem?_cons_succ, List.drop_zero, List.drop_succ_cons, List.take_succ_cons, List.take_zero, List.length_cons, List.length_nil, Nat.zero_add, Nat.reduceAdd, Nat.le_refl, Nat.reduceLeDiff, D.pub, D.pubs, Tryz.results233]
      exact ⟨_, rfl, rfl, congrArg int hr⟩
    · rw [if_neg (by simp [h])] at hr
      simp only [go_sem, contS_seq, simprocAttr, hw]
      refine ⟨l.length - (i + 1), _, ?_, ?_, i + 1, rfl, ?_, hr, rfl⟩
      · omega
      · exact Weak.less (by simp [lessL, lk]) (lessL_refl hc.nd) (by simp [lessL, lk]) rfl
      · omega
  · have hlt' : ((i : Int) < (l.length : Int)) = False := eq_false (by omega)
    rw [List.drop_eq_nil_of_le (by omega), lidx] at hr
    simp only [go_sem, contS_seq, simprocAttr, rows_len, hlt']
    simp only [retK, fullK, iterK, resD, resA, AOp.ex, St.ev, Option.map_some, Option.bind_some, St.get, lk, reduceIte, Nat.reduceEqDiff, Option.getD_some, oneD, List.getElem?_cons_zero, List.getElem?_cons_succ, List.drop_zero, List.drop_succ_cons, List.take_succ_cons, List.take_zero, List.length_cons, List.length_nil, Nat.zero_add, Nat.reduceAdd, Nat.le_refl, Nat.reduceLeDiff, D.pub, D.pubs, Tryz.results233]
    exact ⟨_, rfl, rfl, congrArg int hr⟩

theorem IndexFunc_Pair (p : APair → Bool) (g : FuncId) (he : Enters Tryz.prog g) (caps : List (Nat × Nat)) (bs : List (Nat × List D)) (hc : Cl bs caps) (l : List APair) (hl : l.length ≤ 1000000)
    (hp : ∀ x ∈ l, PureB Tryz.prog g (APair.d x :: capD caps) bs (fun d => d = bln (p x))) :
    PureB Tryz.prog 239 [.pd (.slice (rows APair.pd l)), .fn g caps] bs (fun d => d = int (lidx p l 0)) := by
  refine pureB_of_run follows an_z92 Tryz.func239 rfl ok_z92 dst_z92 (by simp [Tryz.ntmps239]) ?_
  rw [run_start]
  simp only [ac_z92, go_sem, contS_seq, simprocAttr, rows_len]
  refine loopS (fun k st => ∃ i : Nat, k = l.length - i ∧ i ≤ l.length ∧ lidx p (l.drop i) i = lidx p l 0 ∧
    st = ⟨[(0, .pd (.slice (rows APair.pd l))), (1, .fn g caps), (7, int l.length), (8, int i)], bs, [], .no⟩) l.length _ (Weak.refl _ _) ⟨0, rfl, Nat.zero_le _, rfl, rfl⟩ ?_
  rintro k st ⟨i, rfl, hi, hr, rfl⟩
  by_cases hlt : i < l.length
  · obtain ⟨x, hx⟩ := at_lt hlt
    have hlt' : ((i : Int) < (l.length : Int)) = True := eq_true (by omega)
    have hw := i64_succ (show i < 1000000000 by omega)
    rw [drop_at hx, lidx] at hr
    simp only [go_sem, contS_seq, simprocAttr, hlt', rows_get hx]
    refine (hp x (List.mem_of_getElem? hx)).callW he _ (idr bs) hc.ok (hc.args (by rfl)) hc.see ?_
    rintro d rfl
    simp only [go_sem, contS_seq, simprocAttr]
    refine Gif.mk (fun h => ?_) (fun h => ?_)
    · rw [if_pos h] at hr
      simp only [retK, fullK, iterK, resD, resA, AOp.ex, St.ev, Option.map_some, Option.bind_some, St.get, lk, reduceIte, Nat.reduceEqDiff, Option.getD_some, oneD, List.getElem?_cons_zero, List.getElem?_cons_succ, List.drop_zero, List.drop_succ_cons, List.take_succ_cons, List.take_zero, List.length_cons, List.length_nil, Nat.zero_add, Nat.reduceAdd, Nat.le_refl, Nat.reduceLeDiff, D.pub, D.pubs, Tryz.results239]
      exact ⟨_, rfl, rfl, congrArg int hr⟩
    · rw [if_neg (by simp [h])] at hr
      simp only [go_sem, contS_seq, simprocAttr, hw]
      refine ⟨l.length - (i + 1), _, ?_, ?_, i + 1, rfl, ?_, hr, rfl⟩
      · omega
      · exact Weak.less (by simp [lessL, lk]) (lessL_refl hc.nd) (by simp [lessL, lk]) rfl
      · omega
  · have hlt' : ((i : Int) < (l.length : Int)) = False := eq_false (by omega)
    rw [List.drop_eq_nil_of_le (by omega), lidx] at hr
    simp only [go_sem, contS_seq, simprocAttr, rows_len, hlt']
    simp only [retK, fullK, iterK, resD, resA, AOp.ex, St.ev, Option.map_some, Option.bind_some, St.get, lk, reduceIte, Nat.reduceEqDiff, Option.getD_some, oneD, List.getElem?_cons_zero, List.getElem?_cons_succ, List.drop_zero, List.drop_succ_cons, List.take_succ_cons, List.take_zero, List.length_cons, List.length_nil, Nat.zero_add, Nat.reduceAdd, Nat.le_refl, Nat.reduceLeDiff, D.pub, D.pubs, Tryz.results239]
    exact ⟨_, rfl, rfl, congrArg int hr⟩

theorem IndexFunc_Filter (p : AFilter → Bool) (g : FuncId) (he : Enters Tryz.prog g) (caps : List (Nat × Nat)) (bs : List (Nat × List D)) (hc : Cl bs caps) (l : List AFilter) (hl : l.length ≤ 1000000)
    (hp : ∀ x ∈ l, PureB Tryz.prog g (AFilter.d x :: capD caps) bs (fun d => d = bln (p x))) :
    PureB Tryz.prog 243 [.pd (.slice (rows AFilter.pd l)), .fn g caps] bs (fun d => d = int (lidx p l 0)) := by
  refine pureB_of_run follows an_z93 Tryz.func243 rfl ok_z93 dst_z93 (by simp [Tryz.ntmps243]) ?_
  rw [run_start]
  simp only [ac_z93, go_sem, contS_seq, simprocAttr, rows_len]
  refine loopS (fun k st => ∃ i : Nat, k = l.length - i ∧ i ≤ l.length ∧ lidx p (l.drop i) i = lidx p l 0 ∧
    st = ⟨[(0, .pd (.slice (rows AFilter.pd l))), (1, .fn g caps), (7, int l.length), (8, int i)], bs, [], .no⟩) l.length _ (Weak.refl _ _) ⟨0, rfl, Nat.zero_le _, rfl, rfl⟩ ?_
  rintro k st ⟨i, rfl, hi, hr, rfl⟩
  by_cases hlt : i < l.length
  · obtain ⟨x, hx⟩ := at_lt hlt
    have hlt' : ((i : Int) < (l.length : Int)) = True := eq_true (by omega)
    have hw := i64_succ (show i < 1000000000 by omega)
    rw [drop_at hx, lidx] at hr
    simp only [go_sem, contS_seq, simprocAttr, hlt', rows_get hx]
    refine (hp x (List.mem_of_getElem? hx)).callW he _ (idr bs) hc.ok (hc.args (by rfl)) hc.see ?_
    rintro d rfl
    simp only [go_sem, contS_seq, simprocAttr]
    refine Gif.mk (fun h => ?_) (fun h => ?_)
    · rw [if_pos h] at hr
      simp only [retK, fullK, iterK, resD, resA, AOp.ex, St.ev, Option.map_some, Option.bind_some, St.get, lk, reduceIte, Nat.reduceEqDiff, Option.getD_some, oneD, List.getElem?_cons_zero, List.getElem?_cons_succ, List.drop_zero, List.drop_succ_cons, List.take_succ_cons, List.take_zero, List.length_cons, List.length_nil, Nat.zero_add, Nat.reduceAdd, Nat.le_refl, Nat.reduceLeDiff, D.pub, D.pubs, Tryz.results243]
      exact ⟨_, rfl, rfl, congrArg int hr⟩
    · rw [if_neg (by simp [h])] at hr
      simp only [go_sem, contS_seq, simprocAttr, hw]
      refine ⟨l.length - (i + 1), _, ?_, ?_, i + 1, rfl, ?_, hr, rfl⟩
      · omega
      · exact Weak.less (by simp [lessL, lk]) (lessL_refl hc.nd) (by simp [lessL, lk]) rfl
      · omega
  · have hlt' : ((i : Int) < (l.length : Int)) = False := eq_false (by omega)
    rw [List.drop_eq_nil_of_le (by omega), lidx] at hr
    simp only [go_sem, contS_seq, simprocAttr, rows_len, hlt']
    simp only [retK, fullK, iterK, resD, resA, AOp.ex, St.ev, Option.map_some, Option.bind_some, St.get, lk, reduceIte, Nat.reduceEqDiff, Option.getD_some, oneD, List.getElem?_cons_zero, List.getElem?_cons_succ, List.drop_zero, List.drop_succ_cons, List.take_succ_cons, List.take_zero, List.length_cons, List.length_nil, Nat.zero_add, Nat.reduceAdd, Nat.le_refl, Nat.reduceLeDiff, D.pub, D.pubs, Tryz.results243]
    exact ⟨_, rfl, rfl, congrArg int hr⟩

theorem IndexFunc_Backend (p : ABackend → Bool) (g : FuncId) (he : Enters Tryz.prog g) (caps : List (Nat × Nat)) (bs : List (Nat × List D)) (hc : Cl bs caps) (l : List ABackend) (hl : l.length ≤ 1000000)
    (hp : ∀ x ∈ l, PureB Tryz.prog g (ABackend.d x :: capD caps) bs (fun d => d = bln (p x))) :
    PureB Tryz.prog 244 [.pd (.slice (rows ABackend.pd l)), .fn g caps] bs (fun d => d = int (lidx p l 0)) := by
  refine pureB_of_run follows an_z94 Tryz.func244 rfl ok_z94 dst_z94 (by simp [Tryz.ntmps244]) ?_
  rw [run_start]
  simp only [ac_z94, go_sem, contS_seq, simprocAttr, rows_len]
  refine loopS (fun k st => ∃ i : Nat, k = l.length - i ∧ i ≤ l.length ∧ lidx p (l.drop i) i = lidx p l 0 ∧
    st = ⟨[(0, .pd (.slice (rows ABackend.pd l))), (1, .fn g caps), (7, int l.length), (8, int i)], bs, [], .no⟩) l.length _ (Weak.refl _ _) ⟨0, rfl, Nat.zero_le _, rfl, rfl⟩ ?_
  rintro k st ⟨i, rfl, hi, hr, rfl⟩
  by_cases hlt : i < l.length
  · obtain ⟨x, hx⟩ := at_lt hlt
    have hlt' : ((i : Int) < (l.length : Int)) = True := eq_true (by omega)
    have hw := i64_succ (show i < 1000000000 by omega)
    rw [drop_at hx, lidx] at hr
    simp only [go_sem, contS_seq, simprocAttr, hlt', rows_get hx]
    refine (hp x (List.mem_of_getElem? hx)).callW he _ (idr bs) hc.ok (hc.args (by rfl)) hc.see ?_
    rintro d rfl
    simp only [go_sem, contS_seq, simprocAttr]
    refine Gif.mk (fun h => ?_) (fun h => ?_)
    · rw [if_pos h] at hr
      simp only [retK, fullK, iterK, resD, resA, AOp.ex, St.ev, Option.map_some, Option.bind_some, St.get, lk, reduceIte, Nat.reduceEqDiff, Option.getD_some, oneD, List.getElem?_cons_zero, List.getElem?_cons_succ, List.drop_zero, List.drop_succ_cons, List.take_succ_cons, List.take_zero, List.length_cons, List.length_nil, Nat.zero_add, Nat.reduceAdd, Nat.le_refl, Nat.reduceLeDiff, D.pub, D.pubs, Tryz.results244]
      exact ⟨_, rfl, rfl, congrArg int hr⟩
    · rw [if_neg (by simp [h])] at hr
      simp only [go_sem, contS_seq, simprocAttr, hw]
      refine ⟨l.length - (i + 1), _, ?_, ?_, i + 1, rfl, ?_, hr, rfl⟩
      · omega
      · exact Weak.less (by simp [lessL, lk]) (lessL_refl hc.nd) (by simp [lessL, lk]) rfl
      · omega
  · have hlt' : ((i : Int) < (l.length : Int)) = False := eq_false (by omega)
    rw [List.drop_eq_nil_of_le (by omega), lidx] at hr
    simp only [go_sem, contS_seq, simprocAttr, rows_len, hlt']
    simp only [retK, fullK, iterK, resD, resA, AOp.ex, St.ev, Option.map_some, Option.bind_some, St.get, lk, reduceIte, Nat.reduceEqDiff, Option.getD_some, oneD, List.getElem?_cons_zero, List.getElem?_cons_succ, List.drop_zero, List.drop_succ_cons, List.take_succ_cons, List.take_zero, List.length_cons, List.length_nil, Nat.zero_add, Nat.reduceAdd, Nat.le_refl, Nat.reduceLeDiff, D.pub, D.pubs, Tryz.results244]
    exact ⟨_, rfl, rfl, congrArg int hr⟩


theorem ContainsFunc_Side (p : ASide → Bool) (g : FuncId) (he : Enters Tryz.prog g) (caps : List (Nat × Nat)) (bs : List (Nat × List D)) (hc : Cl bs caps) (l : List ASide) (hl : l.length ≤ 1000000)
    (hp : ∀ x ∈ l, PureB Tryz.prog g (ASide.d x :: capD caps) bs (fun d => d = bln (p x))) :
    PureB Tryz.prog 53 [.pd (.slice (rows ASide.pd l)), .fn g caps] bs (fun d => d = bln (l.any p)) := by
  refine pureB_of_run follows an_z34 Tryz.func53 rfl ok_z34 dst_z34 (by simp [Tryz.ntmps53]) ?_
  rw [run_start]
  simp only [ac_z34, go_sem, contS_seq, simprocAttr, rows_len]
  refine (IndexFunc_Side p g he caps bs hc l hl hp).callW (enters_of Tryz.func92 rfl rfl) _ (idr bs) hc.ok hc.two hc.see ?_
  rintro d rfl
  simp only [go_sem, contS_seq, simprocAttr]
  simp only [retK, fullK, iterK, resD, resA, AOp.ex, St.ev, Option.map_some, Option.bind_some, St.get, lk, reduceIte, Nat.reduceEqDiff, Option.getD_some, oneD, List.getElem?_cons_zero, List.getElem?_cons_succ, List.drop_zero, List.drop_succ_cons, List.take_succ_cons, List.take_zero, List.length_cons, List.length_nil, Nat.zero_add, Nat.reduceAdd, Nat.le_refl, Nat.reduceLeDiff, D.pub, D.pubs, Tryz.results53]
  exact ⟨_, rfl, rfl, congrArg bln (lidx_any p l)⟩

theorem ContainsFunc_int (p : Int → Bool) (g : FuncId) (he : Enters Tryz.prog g) (caps : List (Nat × Nat)) (bs : List (Nat × List D)) (hc : Cl bs caps) (l : List Int) (hl : l.length ≤ 1000000)
    (hp : ∀ x ∈ l, PureB Tryz.prog g (int x :: capD caps) bs (fun d => d = bln (p x))) :
    PureB Tryz.prog 151 [.pd (.slice (rows cInt l)), .fn g caps] bs (fun d => d = bln (l.any p)) := by
  refine pureB_of_run follows an_z57 Tryz.func151 rfl ok_z57 dst_z57 (by simp [Tryz.ntmps151]) ?_
  rw [run_start]
  simp only [ac_z57, go_sem, contS_seq, simprocAttr, rows_len]
  refine (IndexFunc_int p g he caps bs hc l hl hp).callW (enters_of Tryz.func191 rfl rfl) _ (idr bs) hc.ok hc.two hc.see ?_
  rintro d rfl
  simp only [go_sem, contS_seq, simprocAttr]
  simp only [retK, fullK, iterK, resD, resA, AOp.ex, St.ev, Option.map_some, Option.bind_some, St.get, lk, reduceIte, Nat.reduceEqDiff, Option.getD_some, oneD, List.getElem?_cons_zero, List.getElem?_cons_succ, List.drop_zero, List.drop_succ_cons, List.take_succ_cons, List.take_zero, List.length_cons, List.length_nil, Nat.zero_add, Nat.reduceAdd, Nat.le_refl, Nat.reduceLeDiff, D.pub, D.pubs, Tryz.results151]
  exact ⟨_, rfl, rfl, congrArg bln (lidx_any p l)⟩

theorem ContainsFunc_Listener (p : AListener → Bool) (g : FuncId) (he : Enters Tryz.prog g) (caps : List (Nat × Nat)) (bs : List (Nat × List D)) (hc : Cl bs caps) (l : List AListener) (hl : l.length ≤ 1000000)
    (hp : ∀ x ∈ l, PureB Tryz.prog g (AListener.d x :: capD caps) bs (fun d => d = bln (p x))) :
    PureB Tryz.prog 156 [.pd (.slice (rows AListener.pd l)), .fn g caps] bs (fun d => d = bln (l.any p)) := by
  refine pureB_of_run follows an_z60 Tryz.func156 rfl ok_z60 dst_z60 (by simp [Tryz.ntmps156]) ?_
  rw [run_start]
  simp only [ac_z60, go_sem, contS_seq, simprocAttr, rows_len]
  refine (IndexFunc_Listener p g he caps bs hc l hl hp).callW (enters_of Tryz.func194 rfl rfl) _ (idr bs) hc.ok hc.two hc.see ?_
  rintro d rfl
  simp only [go_sem, contS_seq, simprocAttr]
  simp only [retK, fullK, iterK, resD, resA, AOp.ex, St.ev, Option.map_some, Option.bind_some, St.get, lk, reduceIte, Nat.reduceEqDiff, Option.getD_some, oneD, List.getElem?_cons_zero, List.getElem?_cons_succ, List.drop_zero, List.drop_succ_cons, List.take_succ_cons, List.take_zero, List.length_cons, List.length_nil, Nat.zero_add, Nat.reduceAdd, Nat.le_refl, Nat.reduceLeDiff, D.pub, D.pubs, Tryz.results156]
  exact ⟨_, rfl, rfl, congrArg bln (lidx_any p l)⟩

theorem ContainsFunc_Need (p : ANeed → Bool) (g : FuncId) (he : Enters Tryz.prog g) (caps : List (Nat × Nat)) (bs : List (Nat × List D)) (hc : Cl bs caps) (l : List ANeed) (hl : l.length ≤ 1000000)
    (hp : ∀ x ∈ l, PureB Tryz.prog g (ANeed.d x :: capD caps) bs (fun d => d = bln (p x))) :
    PureB Tryz.prog 195 [.pd (.slice (rows ANeed.pd l)), .fn g caps] bs (fun d => d = bln (l.any p)) := by
  refine pureB_of_run follows an_z79 Tryz.func195 rfl ok_z79 dst_z79 (by simp [Tryz.ntmps195]) ?_
  rw [run_start]
  simp only [ac_z79, go_sem, contS_seq, simprocAttr, rows_len]
  refine (IndexFunc_Need p g he caps bs hc l hl hp).callW (enters_of Tryz.func230 rfl rfl) _ (idr bs) hc.ok hc.two hc.see ?_
  rintro d rfl
  simp only [go_sem, contS_seq, simprocAttr]
  simp only [retK, fullK, iterK, resD, resA, AOp.ex, St.ev, Option.map_some, Option.bind_some, St.get, lk, reduceIte, Nat.reduceEqDiff, Option.getD_some, oneD, List.getElem?_cons_zero, List.getElem?_cons_succ, List.drop_zero, List.drop_succ_cons, List.take_succ_cons, List.take_zero, List.length_cons, List.length_nil, Nat.zero_add, Nat.reduceAdd, Nat.le_refl, Nat.reduceLeDiff, D.pub, D.pubs, Tryz.results195]
  exact ⟨_, rfl, rfl, congrArg bln (lidx_any p l)⟩

theorem ContainsFunc_Parent (p : AParent → Bool) (g : FuncId) (he : Enters Tryz.prog g) (caps : List (Nat × Nat)) (bs : List (Nat × List D)) (hc : Cl bs caps) (l : List AParent) (hl : l.length ≤ 1000000)
    (hp : ∀ x ∈ l, PureB Tryz.prog g (AParent.d x :: capD caps) bs (fun d => d = bln (p x))) :
    PureB Tryz.prog 161 [.pd (.slice (rows AParent.pd l)), .fn g caps] bs (fun d => d = bln (l.any p)) := by
  refine pureB_of_run follows an_z63 Tryz.func161 rfl ok_z63 dst_z63 (by simp [Tryz.ntmps161]) ?_
  rw [run_start]
  simp only [ac_z63, go_sem, contS_seq, simprocAttr, rows_len]
  refine (IndexFunc_Parent p g he caps bs hc l hl hp).callW (enters_of Tryz.func198 rfl rfl) _ (idr bs) hc.ok hc.two hc.see ?_
  rintro d rfl
  simp only [go_sem, contS_seq, simprocAttr]
  simp only [retK, fullK, iterK, resD, resA, AOp.ex, St.ev, Option.map_some, Option.bind_some, St.get, lk, reduceIte, Nat.reduceEqDiff, Option.getD_some, oneD, List.getElem?_cons_zero, List.getElem?_cons_succ, List.drop_zero, List.drop_succ_cons, List.take_succ_cons, List.take_zero, List.length_cons, List.length_nil, Nat.zero_add, Nat.reduceAdd, Nat.le_refl, Nat.reduceLeDiff, D.pub, D.pubs, Tryz.results161]
  exact ⟨_, rfl, rfl, congrArg bln (lidx_any p l)⟩

theorem ContainsFunc_string (p : ByteArray → Bool) (g : FuncId) (he : Enters Tryz.prog g) (caps : List (Nat × Nat)) (bs : List (Nat × List D)) (hc : Cl bs caps) (l : List ByteArray) (hl : l.length ≤ 1000000)
    (hp : ∀ x ∈ l, PureB Tryz.prog g (str x :: capD caps) bs (fun d => d = bln (p x))) :
    PureB Tryz.prog 163 [.pd (.slice (rows cStr l)), .fn g caps] bs (fun d => d = bln (l.any p)) := by
  refine pureB_of_run follows an_z65 Tryz.func163 rfl ok_z65 dst_z65 (by simp [Tryz.ntmps163]) ?_
  rw [run_start]
  simp only [ac_z65, go_sem, contS_seq, simprocAttr, rows_len]
  refine (IndexFunc_string p g he caps bs hc l hl hp).callW (enters_of Tryz.func199 rfl rfl) _ (idr bs) hc.ok hc.two hc.see ?_
  rintro d rfl
  simp only [go_sem, contS_seq, simprocAttr]
  simp only [retK, fullK, iterK, resD, resA, AOp.ex, St.ev, Option.map_some, Option.bind_some, St.get, lk, reduceIte, Nat.reduceEqDiff, Option.getD_some, oneD, List.getElem?_cons_zero, List.getElem?_cons_succ, List.drop_zero, List.drop_succ_cons, List.take_succ_cons, List.take_zero, List.length_cons, List.length_nil, Nat.zero_add, Nat.reduceAdd, Nat.le_refl, Nat.reduceLeDiff, D.pub, D.pubs, Tryz.results163]
  exact ⟨_, rfl, rfl, congrArg bln (lidx_any p l)⟩

theorem ContainsFunc_Rule (p : ARule → Bool) (g : FuncId) (he : Enters Tryz.prog g) (caps : List (Nat × Nat)) (bs : List (Nat × List D)) (hc : Cl bs caps) (l : List ARule) (hl : l.length ≤ 1000000)
    (hp : ∀ x ∈ l, PureB Tryz.prog g (ARule.d x :: capD caps) bs (fun d => d = bln (p x))) :
    PureB Tryz.prog 168 [.pd (.slice (rows ARule.pd l)), .fn g caps] bs (fun d => d = bln (l.any p)) := by
  refine pureB_of_run follows an_z69 Tryz.func168 rfl ok_z69 dst_z69 (by simp [Tryz.ntmps168]) ?_
  rw [run_start]
  simp only [ac_z69, go_sem, contS_seq, simprocAttr, rows_len]
  refine (IndexFunc_Rule p g he caps bs hc l hl hp).callW (enters_of Tryz.func201 rfl rfl) _ (idr bs) hc.ok hc.two hc.see ?_
  rintro d rfl
  simp only [go_sem, contS_seq, simprocAttr]
  simp only [retK, fullK, iterK, resD, resA, AOp.ex, St.ev, Option.map_some, Option.bind_some, St.get, lk, reduceIte, Nat.reduceEqDiff, Option.getD_some, oneD, List.getElem?_cons_zero, List.getElem?_cons_succ, List.drop_zero, List.drop_succ_cons, List.take_succ_cons, List.take_zero, List.length_cons, List.length_nil, Nat.zero_add, Nat.reduceAdd, Nat.le_refl, Nat.reduceLeDiff, D.pub, D.pubs, Tryz.results168]
  exact ⟨_, rfl, rfl, congrArg bln (lidx_any p l)⟩

theorem ContainsFunc_Match (p : AMatch → Bool) (g : FuncId) (he : Enters Tryz.prog g) (caps : List (Nat × Nat)) (bs : List (Nat × List D)) (hc : Cl bs caps) (l : List AMatch) (hl : l.length ≤ 1000000)
    (hp : ∀ x ∈ l, PureB Tryz.prog g (AMatch.d x :: capD caps) bs (fun d => d = bln (p x))) :
    PureB Tryz.prog 202 [.pd (.slice (rows AMatch.pd l)), .fn g caps] bs (fun d => d = bln (l.any p)) := by
  refine pureB_of_run follows an_z83 Tryz.func202 rfl ok_z83 dst_z83 (by simp [Tryz.ntmps202]) ?_
  rw [run_start]
  simp only [ac_z83, go_sem, contS_seq, simprocAttr, rows_len]
  refine (IndexFunc_Match p g he caps bs hc l hl hp).callW (enters_of Tryz.func233 rfl rfl) _ (idr bs) hc.ok hc.two hc.see ?_
  rintro d rfl
  simp only [go_sem, contS_seq, simprocAttr]
  simp only [retK, fullK, iterK, resD, resA, AOp.ex, St.ev, Option.map_some, Option.bind_some, St.get, lk, reduceIte, Nat.reduceEqDiff, Option.getD_some, oneD, List.getElem?_cons_zero, List.getElem?_cons_succ, List.drop_zero, List.drop_succ_cons, List.take_succ_cons, List.take_zero, List.length_cons, List.length_nil, Nat.zero_add, Nat.reduceAdd, Nat.le_refl, Nat.reduceLeDiff, D.pub, D.pubs, Tryz.results202]
  exact ⟨_, rfl, rfl, congrArg bln (lidx_any p l)⟩

theorem ContainsFunc_Pair (p : APair → Bool) (g : FuncId) (he : Enters Tryz.prog g) (caps : List (Nat × Nat)) (bs : List (Nat × List D)) (hc : Cl bs caps) (l : List APair) (hl : l.length ≤ 1000000)
    (hp : ∀ x ∈ l, PureB Tryz.prog g (APair.d x :: capD caps) bs (fun d => d = bln (p x))) :
    PureB Tryz.prog 209 [.pd (.slice (rows APair.pd l)), .fn g caps] bs (fun d => d = bln (l.any p)) := by
  refine pureB_of_run follows an_z85 Tryz.func209 rfl ok_z85 dst_z85 (by simp [Tryz.ntmps209]) ?_
  rw [run_start]
  simp only [ac_z85, go_sem, contS_seq, simprocAttr, rows_len]
  refine (IndexFunc_Pair p g he caps bs hc l hl hp).callW (enters_of Tryz.func239 rfl rfl) _ (idr bs) hc.ok hc.two hc.see ?_
  rintro d rfl
  simp only [go_sem, contS_seq, simprocAttr]
  simp only [retK, fullK, iterK, resD, resA, AOp.ex, St.ev, Option.map_some, Option.bind_some, St.get, lk, reduceIte, Nat.reduceEqDiff, Option.getD_some, oneD, List.getElem?_cons_zero, List.getElem?_cons_succ, List.drop_zero, List.drop_succ_cons, List.take_succ_cons, List.take_zero, List.length_cons, List.length_nil, Nat.zero_add, Nat.reduceAdd, Nat.le_refl, Nat.reduceLeDiff, D.pub, D.pubs, Tryz.results209]
  exact ⟨_, rfl, rfl, congrArg bln (lidx_any p l)⟩

theorem ContainsFunc_Filter (p : AFilter → Bool) (g : FuncId) (he : Enters Tryz.prog g) (caps : List (Nat × Nat)) (bs : List (Nat × List D)) (hc : Cl bs caps) (l : List AFilter) (hl : l.length ≤ 1000000)
    (hp : ∀ x ∈ l, PureB Tryz.prog g (AFilter.d x :: capD caps) bs (fun d => d = bln (p x))) :
    PureB Tryz.prog 217 [.pd (.slice (rows AFilter.pd l)), .fn g caps] bs (fun d => d = bln (l.any p)) := by
  refine pureB_of_run follows an_z86 Tryz.func217 rfl ok_z86 dst_z86 (by simp [Tryz.ntmps217]) ?_
  rw [run_start]
  simp only [ac_z86, go_sem, contS_seq, simprocAttr, rows_len]
  refine (IndexFunc_Filter p g he caps bs hc l hl hp).callW (enters_of Tryz.func243 rfl rfl) _ (idr bs) hc.ok hc.two hc.see ?_
  rintro d rfl
  simp only [go_sem, contS_seq, simprocAttr]
  simp only [retK, fullK, iterK, resD, resA, AOp.ex, St.ev, Option.map_some, Option.bind_some, St.get, lk, reduceIte, Nat.reduceEqDiff, Option.getD_some, oneD, List.getElem?_cons_zero, List.getElem?_cons_succ, List.drop_zero, List.drop_succ_cons, List.take_succ_cons, List.take_zero, List.length_cons, List.length_nil, Nat.zero_add, Nat.reduceAdd, Nat.le_refl, Nat.reduceLeDiff, D.pub, D.pubs, Tryz.results217]
  exact ⟨_, rfl, rfl, congrArg bln (lidx_any p l)⟩

theorem ContainsFunc_Backend (p : ABackend → Bool) (g : FuncId) (he : Enters Tryz.prog g) (caps : List (Nat × Nat)) (bs : List (Nat × List D)) (hc : Cl bs caps) (l : List ABackend) (hl : l.length ≤ 1000000)
    (hp : ∀ x ∈ l, PureB Tryz.prog g (ABackend.d x :: capD caps) bs (fun d => d = bln (p x))) :
    PureB Tryz.prog 218 [.pd (.slice (rows ABackend.pd l)), .fn g caps] bs (fun d => d = bln (l.any p)) := by
  refine pureB_of_run follows an_z87 Tryz.func218 rfl ok_z87 dst_z87 (by simp [Tryz.ntmps218]) ?_
  rw [run_start]
  simp only [ac_z87, go_sem, contS_seq, simprocAttr, rows_len]
  refine (IndexFunc_Backend p g he caps bs hc l hl hp).callW (enters_of Tryz.func244 rfl rfl) _ (idr bs) hc.ok hc.two hc.see ?_
  rintro d rfl
  simp only [go_sem, contS_seq, simprocAttr]
  simp only [retK, fullK, iterK, resD, resA, AOp.ex, St.ev, Option.map_some, Option.bind_some, St.get, lk, reduceIte, Nat.reduceEqDiff, Option.getD_some, oneD, List.getElem?_cons_zero, List.getElem?_cons_succ, List.drop_zero, List.drop_succ_cons, List.take_succ_cons, List.take_zero, List.length_cons, List.length_nil, Nat.zero_add, Nat.reduceAdd, Nat.le_refl, Nat.reduceLeDiff, D.pub, D.pubs, Tryz.results218]
  exact ⟨_, rfl, rfl, congrArg bln (lidx_any p l)⟩

theorem ContainsP_Need (p : ANeed → Bool) (f : FuncId) (he : Enters Tryz.prog f) (l : List ANeed) (hl : l.length ≤ 1000000) (hp : ∀ x ∈ l, Pure Tryz.prog f [ANeed.d x] (fun d => d = bln (p x))) :
    Pure Tryz.prog 195 [.pd (.slice (rows ANeed.pd l)), .fn f []] (fun d => d = bln (l.any p)) :=
  (ContainsFunc_Need p f he [] [] (Cl.of rfl rfl rfl rfl rfl) l hl (fun x hx => (hp x hx).pureB rfl)).pure

theorem ContainsP_string (p : ByteArray → Bool) (f : FuncId) (he : Enters Tryz.prog f) (l : List ByteArray) (hl : l.length ≤ 1000000) (hp : ∀ x ∈ l, Pure Tryz.prog f [str x] (fun d => d = bln (p x))) :
    Pure Tryz.prog 163 [.pd (.slice (rows cStr l)), .fn f []] (fun d => d = bln (l.any p)) :=
  (ContainsFunc_string p f he [] [] (Cl.of rfl rfl rfl rfl rfl) l hl (fun x hx => (hp x hx).pureB rfl)).pure

theorem ContainsP_Pair (p : APair → Bool) (f : FuncId) (he : Enters Tryz.prog f) (l : List APair) (hl : l.length ≤ 1000000) (hp : ∀ x ∈ l, Pure Tryz.prog f [APair.d x] (fun d => d = bln (p x))) :
    Pure Tryz.prog 209 [.pd (.slice (rows APair.pd l)), .fn f []] (fun d => d = bln (l.any p)) :=
  (ContainsFunc_Pair p f he [] [] (Cl.of rfl rfl rfl rfl rfl) l hl (fun x hx => (hp x hx).pureB rfl)).pure

theorem ContainsP_Side (p : ASide → Bool) (f : FuncId) (he : Enters Tryz.prog f) (l : List ASide) (hl : l.length ≤ 1000000) (hp : ∀ x ∈ l, Pure Tryz.prog f [ASide.d x] (fun d => d = bln (p x))) :
    Pure Tryz.prog 53 [.pd (.slice (rows ASide.pd l)), .fn f []] (fun d => d = bln (l.any p)) :=
  (ContainsFunc_Side p f he [] [] (Cl.of rfl rfl rfl rfl rfl) l hl (fun x hx => (hp x hx).pureB rfl)).pure


theorem every_int_1 (p : Int → Bool) (f : FuncId) (he : Enters Tryz.prog f) (x : Int) (hp : Pure Tryz.prog f [int x] (fun d => d = bln (p x))) :
    PureB Tryz.prog 152 [int x, .ptr 1000001 0] [(1000001, [.fn f []])] (fun d => d = bln (!p x)) := by
  refine pureB_of_run follows an_z58 Tryz.func152 rfl ok_z58 dst_z58 (by simp [Tryz.ntmps152]) ?_
  rw [run_start]
  simp only [ac_z58, go_sem, contS_seq, simprocAttr]
  refine hp.callW he _ rfl rfl ?_
  rintro d rfl
  simp only [go_sem, contS_seq, simprocAttr]
  simp only [retK, fullK, iterK, resD, resA, AOp.ex, St.ev, Option.map_some, Option.bind_some, St.get, lk, reduceIte, Nat.reduceEqDiff, Option.getD_some, oneD, List.getElem?_cons_zero, List.getElem?_cons_succ, List.drop_zero, List.drop_succ_cons, List.take_succ_cons, List.take_zero, List.length_cons, List.length_nil, Nat.zero_add, Nat.reduceAdd, Nat.le_refl, Nat.reduceLeDiff, D.pub, D.pubs, Tryz.results152]
  exact ⟨_, rfl, rfl, rfl⟩

theorem every_int (p : Int → Bool) (f : FuncId) (he : Enters Tryz.prog f) (l : List Int) (hl : l.length ≤ 1000000) (n : Int) (hp : ∀ x ∈ l, Pure Tryz.prog f [int x] (fun d => d = bln (p x))) :
    Pure Tryz.prog 109 [.pd (.slice (rows cInt l)), int n, .fn f []] (fun d => d = bln (every p l n)) := by
  refine pure_of_run follows an_z39 Tryz.func109 rfl ok_z39 dst_z39 (by simp [Tryz.ntmps109]) ?_
  rw [run_start]
  simp only [ac_z39, go_sem, contS_seq, simprocAttr, rows_len]
  refine GifP.mk (fun h => ?_) (fun h => ?_)
  · refine (ContainsFunc_int (fun x => !p x) 152 (enters_of Tryz.func152 rfl rfl) [(1000001, 0)] [(1000001, [.fn f []])] (Cl.of rfl rfl rfl rfl rfl) l hl (fun x hx => every_int_1 p f he x (hp x hx))).callW (enters_of Tryz.func151 rfl rfl) _ [(5, 1000001)] rfl rfl rfl ?_
    rintro d rfl
    simp only [go_sem, contS_seq, simprocAttr]
    simp only [retK, fullK, iterK, resD, resA, AOp.ex, St.ev, Option.map_some, Option.bind_some, St.get, lk, reduceIte, Nat.reduceEqDiff, Option.getD_some, oneD, List.getElem?_cons_zero, List.getElem?_cons_succ, List.drop_zero, List.drop_succ_cons, List.take_succ_cons, List.take_zero, List.length_cons, List.length_nil, Nat.zero_add, Nat.reduceAdd, Nat.le_refl, Nat.reduceLeDiff, D.pub, D.pubs, Tryz.results109]
    exact ⟨_, rfl, rfl, congrArg bln (by simp [every, h, List.all_eq_not_any_not])⟩
  · simp only [retK, fullK, iterK, resD, resA, AOp.ex, St.ev, Option.map_some, Option.bind_some, St.get, lk, reduceIte, Nat.reduceEqDiff, Option.getD_some, oneD, List.getElem?_cons_zero, List.getElem?_cons_succ, List.drop_zero, List.drop_succ_cons, List.take_succ_cons, List.take_zero, List.length_cons, List.length_nil, Nat.zero_add, Nat.reduceAdd, Nat.le_refl, Nat.reduceLeDiff, D.pub, D.pubs, Tryz.results109]
    exact ⟨_, rfl, rfl, congrArg bln (by simp [every, h])⟩

theorem every_Listener_1 (p : AListener → Bool) (f : FuncId) (he : Enters Tryz.prog f) (x : AListener) (hp : Pure Tryz.prog f [AListener.d x] (fun d => d = bln (p x))) :
    PureB Tryz.prog 157 [AListener.d x, .ptr 1000001 0] [(1000001, [.fn f []])] (fun d => d = bln (!p x)) := by
  refine pureB_of_run follows an_z61 Tryz.func157 rfl ok_z61 dst_z61 (by simp [Tryz.ntmps157]) ?_
  rw [run_start]
  simp only [ac_z61, go_sem, contS_seq, simprocAttr]
  refine hp.callW he _ rfl rfl ?_
  rintro d rfl
  simp only [go_sem, contS_seq, simprocAttr]
  simp only [retK, fullK, iterK, resD, resA, AOp.ex, St.ev, Option.map_some, Option.bind_some, St.get, lk, reduceIte, Nat.reduceEqDiff, Option.getD_some, oneD, List.getElem?_cons_zero, List.getElem?_cons_succ, List.drop_zero, List.drop_succ_cons, List.take_succ_cons, List.take_zero, List.length_cons, List.length_nil, Nat.zero_add, Nat.reduceAdd, Nat.le_refl, Nat.reduceLeDiff, D.pub, D.pubs, Tryz.results157]
  exact ⟨_, rfl, rfl, rfl⟩

theorem every_Listener (p : AListener → Bool) (f : FuncId) (he : Enters Tryz.prog f) (l : List AListener) (hl : l.length ≤ 1000000) (n : Int) (hp : ∀ x ∈ l, Pure Tryz.prog f [AListener.d x] (fun d => d = bln (p x))) :
    Pure Tryz.prog 116 [.pd (.slice (rows AListener.pd l)), int n, .fn f []] (fun d => d = bln (every p l n)) := by
  refine pure_of_run follows an_z42 Tryz.func116 rfl ok_z42 dst_z42 (by simp [Tryz.ntmps116]) ?_
  rw [run_start]
  simp only [ac_z42, go_sem, contS_seq, simprocAttr, rows_len]
  refine GifP.mk (fun h => ?_) (fun h => ?_)
  · refine (ContainsFunc_Listener (fun x => !p x) 157 (enters_of Tryz.func157 rfl rfl) [(1000001, 0)] [(1000001, [.fn f []])] (Cl.of rfl rfl rfl rfl rfl) l hl (fun x hx => every_Listener_1 p f he x (hp x hx))).callW (enters_of Tryz.func156 rfl rfl) _ [(5, 1000001)] rfl rfl rfl ?_
    rintro d rfl
    simp only [go_sem, contS_seq, simprocAttr]
    simp only [retK, fullK, iterK, resD, resA, AOp.ex, St.ev, Option.map_some, Option.bind_some, St.get, lk, reduceIte, Nat.reduceEqDiff, Option.getD_some, oneD, List.getElem?_cons_zero, List.getElem?_cons_succ, List.drop_zero, List.drop_succ_cons, List.take_succ_cons, List.take_zero, List.length_cons, List.length_nil, Nat.zero_add, Nat.reduceAdd, Nat.le_refl, Nat.reduceLeDiff, D.pub, D.pubs, Tryz.results116]
    exact ⟨_, rfl, rfl, congrArg bln (by simp [every, h, List.all_eq_not_any_not])⟩
  · simp only [retK, fullK, iterK, resD, resA, AOp.ex, St.ev, Option.map_some, Option.bind_some, St.get, lk, reduceIte, Nat.reduceEqDiff, Option.getD_some, oneD, List.getElem?_cons_zero, List.getElem?_cons_succ, List.drop_zero, List.drop_succ_cons, List.take_succ_cons, List.take_zero, List.length_cons, List.length_nil, Nat.zero_add, Nat.reduceAdd, Nat.le_refl, Nat.reduceLeDiff, D.pub, D.pubs, Tryz.results116]
    exact ⟨_, rfl, rfl, congrArg bln (by simp [every, h])⟩

theorem every_Parent_1 (p : AParent → Bool) (f : FuncId) (he : Enters Tryz.prog f) (x : AParent) (hp : Pure Tryz.prog f [AParent.d x] (fun d => d = bln (p x))) :
    PureB Tryz.prog 166 [AParent.d x, .ptr 1000001 0] [(1000001, [.fn f []])] (fun d => d = bln (!p x)) := by
  refine pureB_of_run follows an_z67 Tryz.func166 rfl ok_z67 dst_z67 (by simp [Tryz.ntmps166]) ?_
  rw [run_start]
  simp only [ac_z67, go_sem, contS_seq, simprocAttr]
  refine hp.callW he _ rfl rfl ?_
  rintro d rfl
  simp only [go_sem, contS_seq, simprocAttr]
  simp only [retK, fullK, iterK, resD, resA, AOp.ex, St.ev, Option.map_some, Option.bind_some, St.get, lk, reduceIte, Nat.reduceEqDiff, Option.getD_some, oneD, List.getElem?_cons_zero, List.getElem?_cons_succ, List.drop_zero, List.drop_succ_cons, List.take_succ_cons, List.take_zero, List.length_cons, List.length_nil, Nat.zero_add, Nat.reduceAdd, Nat.le_refl, Nat.reduceLeDiff, D.pub, D.pubs, Tryz.results166]
  exact ⟨_, rfl, rfl, rfl⟩

theorem every_Parent (p : AParent → Bool) (f : FuncId) (he : Enters Tryz.prog f) (l : List AParent) (hl : l.length ≤ 1000000) (n : Int) (hp : ∀ x ∈ l, Pure Tryz.prog f [AParent.d x] (fun d => d = bln (p x))) :
    Pure Tryz.prog 125 [.pd (.slice (rows AParent.pd l)), int n, .fn f []] (fun d => d = bln (every p l n)) := by
  refine pure_of_run follows an_z46 Tryz.func125 rfl ok_z46 dst_z46 (by simp [Tryz.ntmps125]) ?_
  rw [run_start]
  simp only [ac_z46, go_sem, contS_seq, simprocAttr, rows_len]
  refine GifP.mk (fun h => ?_) (fun h => ?_)
  · refine (ContainsFunc_Parent (fun x => !p x) 166 (enters_of Tryz.func166 rfl rfl) [(1000001, 0)] [(1000001, [.fn f []])] (Cl.of rfl rfl rfl rfl rfl) l hl (fun x hx => every_Parent_1 p f he x (hp x hx))).callW (enters_of Tryz.func161 rfl rfl) _ [(5, 1000001)] rfl rfl rfl ?_
    rintro d rfl
    simp only [go_sem, contS_seq, simprocAttr]
    simp only [retK, fullK, iterK, resD, resA, AOp.ex, St.ev, Option.map_some, Option.bind_some, St.get, lk, reduceIte, Nat.reduceEqDiff, Option.getD_some, oneD, List.getElem?_cons_zero, List.getElem?_cons_succ, List.drop_zero, List.drop_succ_cons, List.take_succ_cons, List.take_zero, List.length_cons, List.length_nil, Nat.zero_add, Nat.reduceAdd, Nat.le_refl, Nat.reduceLeDiff, D.pub, D.pubs, Tryz.results125]
    exact ⟨_, rfl, rfl, congrArg bln (by simp [every, h, List.all_eq_not_any_not])⟩
  · simp only [retK, fullK, iterK, resD, resA, AOp.ex, St.ev, Option.map_some, Option.bind_some, St.get, lk, reduceIte, Nat.reduceEqDiff, Option.getD_some, oneD, List.getElem?_cons_zero, List.getElem?_cons_succ, List.drop_zero, List.drop_succ_cons, List.take_succ_cons, List.take_zero, List.length_cons, List.length_nil, Nat.zero_add, Nat.reduceAdd, Nat.le_refl, Nat.reduceLeDiff, D.pub, D.pubs, Tryz.results125]
    exact ⟨_, rfl, rfl, congrArg bln (by simp [every, h])⟩

theorem every_string_1 (p : ByteArray → Bool) (f : FuncId) (he : Enters Tryz.prog f) (x : ByteArray) (hp : Pure Tryz.prog f [str x] (fun d => d = bln (p x))) :
    PureB Tryz.prog 167 [str x, .ptr 1000001 0] [(1000001, [.fn f []])] (fun d => d = bln (!p x)) := by
  refine pureB_of_run follows an_z68 Tryz.func167 rfl ok_z68 dst_z68 (by simp [Tryz.ntmps167]) ?_
  rw [run_start]
  simp only [ac_z68, go_sem, contS_seq, simprocAttr]
  refine hp.callW he _ rfl rfl ?_
  rintro d rfl
  simp only [go_sem, contS_seq, simprocAttr]
  simp only [retK, fullK, iterK, resD, resA, AOp.ex, St.ev, Option.map_some, Option.bind_some, St.get, lk, reduceIte, Nat.reduceEqDiff, Option.getD_some, oneD, List.getElem?_cons_zero, List.getElem?_cons_succ, List.drop_zero, List.drop_succ_cons, List.take_succ_cons, List.take_zero, List.length_cons, List.length_nil, Nat.zero_add, Nat.reduceAdd, Nat.le_refl, Nat.reduceLeDiff, D.pub, D.pubs, Tryz.results167]
  exact ⟨_, rfl, rfl, rfl⟩

theorem every_string (p : ByteArray → Bool) (f : FuncId) (he : Enters Tryz.prog f) (l : List ByteArray) (hl : l.length ≤ 1000000) (n : Int) (hp : ∀ x ∈ l, Pure Tryz.prog f [str x] (fun d => d = bln (p x))) :
    Pure Tryz.prog 127 [.pd (.slice (rows cStr l)), int n, .fn f []] (fun d => d = bln (every p l n)) := by
  refine pure_of_run follows an_z47 Tryz.func127 rfl ok_z47 dst_z47 (by simp [Tryz.ntmps127]) ?_
  rw [run_start]
  simp only [ac_z47, go_sem, contS_seq, simprocAttr, rows_len]
  refine GifP.mk (fun h => ?_) (fun h => ?_)
  · refine (ContainsFunc_string (fun x => !p x) 167 (enters_of Tryz.func167 rfl rfl) [(1000001, 0)] [(1000001, [.fn f []])] (Cl.of rfl rfl rfl rfl rfl) l hl (fun x hx => every_string_1 p f he x (hp x hx))).callW (enters_of Tryz.func163 rfl rfl) _ [(5, 1000001)] rfl rfl rfl ?_
    rintro d rfl
    simp only [go_sem, contS_seq, simprocAttr]
    simp only [retK, fullK, iterK, resD, resA, AOp.ex, St.ev, Option.map_some, Option.bind_some, St.get, lk, reduceIte, Nat.reduceEqDiff, Option.getD_some, oneD, List.getElem?_cons_zero, List.getElem?_cons_succ, List.drop_zero, List.drop_succ_cons, List.take_succ_cons, List.take_zero, List.length_cons, List.length_nil, Nat.zero_add, Nat.reduceAdd, Nat.le_refl, Nat.reduceLeDiff, D.pub, D.pubs, Tryz.results127]
    exact ⟨_, rfl, rfl, congrArg bln (by simp [every, h, List.all_eq_not_any_not])⟩
  · simp only [retK, fullK, iterK, resD, resA, AOp.ex, St.ev, Option.map_some, Option.bind_some, St.get, lk, reduceIte, Nat.reduceEqDiff, Option.getD_some, oneD, List.getElem?_cons_zero, List.getElem?_cons_succ, List.drop_zero, List.drop_succ_cons, List.take_succ_cons, List.take_zero, List.length_cons, List.length_nil, Nat.zero_add, Nat.reduceAdd, Nat.le_refl, Nat.reduceLeDiff, D.pub, D.pubs, Tryz.results127]
    exact ⟨_, rfl, rfl, congrArg bln (by simp [every, h])⟩

theorem every_Rule_1 (p : ARule → Bool) (f : FuncId) (he : Enters Tryz.prog f) (x : ARule) (hp : Pure Tryz.prog f [ARule.d x] (fun d => d = bln (p x))) :
    PureB Tryz.prog 169 [ARule.d x, .ptr 1000001 0] [(1000001, [.fn f []])] (fun d => d = bln (!p x)) := by
  refine pureB_of_run follows an_z70 Tryz.func169 rfl ok_z70 dst_z70 (by simp [Tryz.ntmps169]) ?_
  rw [run_start]
  simp only [ac_z70, go_sem, contS_seq, simprocAttr]
  refine hp.callW he _ rfl rfl ?_
  rintro d rfl
  simp only [go_sem, contS_seq, simprocAttr]
  simp only [retK, fullK, iterK, resD, resA, AOp.ex, St.ev, Option.map_some, Option.bind_some, St.get, lk, reduceIte, Nat.reduceEqDiff, Option.getD_some, oneD, List.getElem?_cons_zero, List.getElem?_cons_succ, List.drop_zero, List.drop_succ_cons, List.take_succ_cons, List.take_zero, List.length_cons, List.length_nil, Nat.zero_add, Nat.reduceAdd, Nat.le_refl, Nat.reduceLeDiff, D.pub, D.pubs, Tryz.results169]
  exact ⟨_, rfl, rfl, rfl⟩

theorem every_Rule (p : ARule → Bool) (f : FuncId) (he : Enters Tryz.prog f) (l : List ARule) (hl : l.length ≤ 1000000) (n : Int) (hp : ∀ x ∈ l, Pure Tryz.prog f [ARule.d x] (fun d => d = bln (p x))) :
    Pure Tryz.prog 128 [.pd (.slice (rows ARule.pd l)), int n, .fn f []] (fun d => d = bln (every p l n)) := by
  refine pure_of_run follows an_z48 Tryz.func128 rfl ok_z48 dst_z48 (by simp [Tryz.ntmps128]) ?_
  rw [run_start]
  simp only [ac_z48, go_sem, contS_seq, simprocAttr, rows_len]
  refine GifP.mk (fun h => ?_) (fun h => ?_)
  · refine (ContainsFunc_Rule (fun x => !p x) 169 (enters_of Tryz.func169 rfl rfl) [(1000001, 0)] [(1000001, [.fn f []])] (Cl.of rfl rfl rfl rfl rfl) l hl (fun x hx => every_Rule_1 p f he x (hp x hx))).callW (enters_of Tryz.func168 rfl rfl) _ [(5, 1000001)] rfl rfl rfl ?_
    rintro d rfl
    simp only [go_sem, contS_seq, simprocAttr]
    simp only [retK, fullK, iterK, resD, resA, AOp.ex, St.ev, Option.map_some, Option.bind_some, St.get, lk, reduceIte, Nat.reduceEqDiff, Option.getD_some, oneD, List.getElem?_cons_zero, List.getElem?_cons_succ, List.drop_zero, List.drop_succ_cons, List.take_succ_cons, List.take_zero, List.length_cons, List.length_nil, Nat.zero_add, Nat.reduceAdd, Nat.le_refl, Nat.reduceLeDiff, D.pub, D.pubs, Tryz.results128]
    exact ⟨_, rfl, rfl, congrArg bln (by simp [every, h, List.all_eq_not_any_not])⟩
  · simp only [retK, fullK, iterK, resD, resA, AOp.ex, St.ev, Option.map_some, Option.bind_some, St.get, lk, reduceIte, Nat.reduceEqDiff, Option.getD_some, oneD, List.getElem?_cons_zero, List.getElem?_cons_succ, List.drop_zero, List.drop_succ_cons, List.take_succ_cons, List.take_zero, List.length_cons, List.length_nil, Nat.zero_add, Nat.reduceAdd, Nat.le_refl, Nat.reduceLeDiff, D.pub, D.pubs, Tryz.results128]
    exact ⟨_, rfl, rfl, congrArg bln (by simp [every, h])⟩

theorem every_Side_1 (p : ASide → Bool) (f : FuncId) (he : Enters Tryz.prog f) (x : ASide) (hp : Pure Tryz.prog f [ASide.d x] (fun d => d = bln (p x))) :
    PureB Tryz.prog 178 [ASide.d x, .ptr 1000001 0] [(1000001, [.fn f []])] (fun d => d = bln (!p x)) := by
  refine pureB_of_run follows an_z73 Tryz.func178 rfl ok_z73 dst_z73 (by simp [Tryz.ntmps178]) ?_
  rw [run_start]
  simp only [ac_z73, go_sem, contS_seq, simprocAttr]
  refine hp.callW he _ rfl rfl ?_
  rintro d rfl
  simp only [go_sem, contS_seq, simprocAttr]
  simp only [retK, fullK, iterK, resD, resA, AOp.ex, St.ev, Option.map_some, Option.bind_some, St.get, lk, reduceIte, Nat.reduceEqDiff, Option.getD_some, oneD, List.getElem?_cons_zero, List.getElem?_cons_succ, List.drop_zero, List.drop_succ_cons, List.take_succ_cons, List.take_zero, List.length_cons, List.length_nil, Nat.zero_add, Nat.reduceAdd, Nat.le_refl, Nat.reduceLeDiff, D.pub, D.pubs, Tryz.results178]
  exact ⟨_, rfl, rfl, rfl⟩

theorem every_Side (p : ASide → Bool) (f : FuncId) (he : Enters Tryz.prog f) (l : List ASide) (hl : l.length ≤ 1000000) (n : Int) (hp : ∀ x ∈ l, Pure Tryz.prog f [ASide.d x] (fun d => d = bln (p x))) :
    Pure Tryz.prog 134 [.pd (.slice (rows ASide.pd l)), int n, .fn f []] (fun d => d = bln (every p l n)) := by
  refine pure_of_run follows an_z49 Tryz.func134 rfl ok_z49 dst_z49 (by simp [Tryz.ntmps134]) ?_
  rw [run_start]
  simp only [ac_z49, go_sem, contS_seq, simprocAttr, rows_len]
  refine GifP.mk (fun h => ?_) (fun h => ?_)
  · refine (ContainsFunc_Side (fun x => !p x) 178 (enters_of Tryz.func178 rfl rfl) [(1000001, 0)] [(1000001, [.fn f []])] (Cl.of rfl rfl rfl rfl rfl) l hl (fun x hx => every_Side_1 p f he x (hp x hx))).callW (enters_of Tryz.func53 rfl rfl) _ [(5, 1000001)] rfl rfl rfl ?_
    rintro d rfl
    simp only [go_sem, contS_seq, simprocAttr]
    simp only [retK, fullK, iterK, resD, resA, AOp.ex, St.ev, Option.map_some, Option.bind_some, St.get, lk, reduceIte, Nat.reduceEqDiff, Option.getD_some, oneD, List.getElem?_cons_zero, List.getElem?_cons_succ, List.drop_zero, List.drop_succ_cons, List.take_succ_cons, List.take_zero, List.length_cons, List.length_nil, Nat.zero_add, Nat.reduceAdd, Nat.le_refl, Nat.reduceLeDiff, D.pub, D.pubs, Tryz.results134]
    exact ⟨_, rfl, rfl, congrArg bln (by simp [every, h, List.all_eq_not_any_not])⟩
  · simp only [retK, fullK, iterK, resD, resA, AOp.ex, St.ev, Option.map_some, Option.bind_some, St.get, lk, reduceIte, Nat.reduceEqDiff, Option.getD_some, oneD, List.getElem?_cons_zero, List.getElem?_cons_succ, List.drop_zero, List.drop_succ_cons, List.take_succ_cons, List.take_zero, List.length_cons, List.length_nil, Nat.zero_add, Nat.reduceAdd, Nat.le_refl, Nat.reduceLeDiff, D.pub, D.pubs, Tryz.results134]
    exact ⟨_, rfl, rfl, congrArg bln (by simp [every, h])⟩

theorem every_Match_1 (p : AMatch → Bool) (f : FuncId) (he : Enters Tryz.prog f) (x : AMatch) (hp : Pure Tryz.prog f [AMatch.d x] (fun d => d = bln (p x))) :
    PureB Tryz.prog 203 [AMatch.d x, .ptr 1000001 0] [(1000001, [.fn f []])] (fun d => d = bln (!p x)) := by
  refine pureB_of_run follows an_z84 Tryz.func203 rfl ok_z84 dst_z84 (by simp [Tryz.ntmps203]) ?_
  rw [run_start]
  simp only [ac_z84, go_sem, contS_seq, simprocAttr]
  refine hp.callW he _ rfl rfl ?_
  rintro d rfl
  simp only [go_sem, contS_seq, simprocAttr]
  simp only [retK, fullK, iterK, resD, resA, AOp.ex, St.ev, Option.map_some, Option.bind_some, St.get, lk, reduceIte, Nat.reduceEqDiff, Option.getD_some, oneD, List.getElem?_cons_zero, List.getElem?_cons_succ, List.drop_zero, List.drop_succ_cons, List.take_succ_cons, List.take_zero, List.length_cons, List.length_nil, Nat.zero_add, Nat.reduceAdd, Nat.le_refl, Nat.reduceLeDiff, D.pub, D.pubs, Tryz.results203]
  exact ⟨_, rfl, rfl, rfl⟩

theorem every_Match (p : AMatch → Bool) (f : FuncId) (he : Enters Tryz.prog f) (l : List AMatch) (hl : l.length ≤ 1000000) (n : Int) (hp : ∀ x ∈ l, Pure Tryz.prog f [AMatch.d x] (fun d => d = bln (p x))) :
    Pure Tryz.prog 170 [.pd (.slice (rows AMatch.pd l)), int n, .fn f []] (fun d => d = bln (every p l n)) := by
  refine pure_of_run follows an_z71 Tryz.func170 rfl ok_z71 dst_z71 (by simp [Tryz.ntmps170]) ?_
  rw [run_start]
  simp only [ac_z71, go_sem, contS_seq, simprocAttr, rows_len]
  refine GifP.mk (fun h => ?_) (fun h => ?_)
  · refine (ContainsFunc_Match (fun x => !p x) 203 (enters_of Tryz.func203 rfl rfl) [(1000001, 0)] [(1000001, [.fn f []])] (Cl.of rfl rfl rfl rfl rfl) l hl (fun x hx => every_Match_1 p f he x (hp x hx))).callW (enters_of Tryz.func202 rfl rfl) _ [(5, 1000001)] rfl rfl rfl ?_
    rintro d rfl
    simp only [go_sem, contS_seq, simprocAttr]
    simp only [retK, fullK, iterK, resD, resA, AOp.ex, St.ev, Option.map_some, Option.bind_some, St.get, lk, reduceIte, Nat.reduceEqDiff, Option.getD_some, oneD, List.getElem?_cons_zero, List.getElem?_cons_succ, List.drop_zero, List.drop_succ_cons, List.take_succ_cons, List.take_zero, List.length_cons, List.length_nil, Nat.zero_add, Nat.reduceAdd, Nat.le_refl, Nat.reduceLeDiff, D.pub, D.pubs, Tryz.results170]
    exact ⟨_, rfl, rfl, congrArg bln (by simp [every, h, List.all_eq_not_any_not])⟩
  · simp only [retK, fullK, iterK, resD, resA, AOp.ex, St.ev, Option.map_some, Option.bind_some, St.get, lk, reduceIte, Nat.reduceEqDiff, Option.getD_some, oneD, List.getElem?_cons_zero, List.getElem?_cons_succ, List.drop_zero, List.drop_succ_cons, List.take_succ_cons, List.take_zero, List.length_cons, List.length_nil, Nat.zero_add, Nat.reduceAdd, Nat.le_refl, Nat.reduceLeDiff, D.pub, D.pubs, Tryz.results170]
    exact ⟨_, rfl, rfl, congrArg bln (by simp [every, h])⟩

theorem every_Backend_1 (p : ABackend → Bool) (f : FuncId) (he : Enters Tryz.prog f) (x : ABackend) (hp : Pure Tryz.prog f [ABackend.d x] (fun d => d = bln (p x))) :
    PureB Tryz.prog 219 [ABackend.d x, .ptr 1000001 0] [(1000001, [.fn f []])] (fun d => d = bln (!p x)) := by
  refine pureB_of_run follows an_z88 Tryz.func219 rfl ok_z88 dst_z88 (by simp [Tryz.ntmps219]) ?_
  rw [run_start]
  simp only [ac_z88, go_sem, contS_seq, simprocAttr]
  refine hp.callW he _ rfl rfl ?_
  rintro d rfl
  simp only [go_sem, contS_seq, simprocAttr]
  simp only [retK, fullK, iterK, resD, resA, AOp.ex, St.ev, Option.map_some, Option.bind_some, St.get, lk, reduceIte, Nat.reduceEqDiff, Option.getD_some, oneD, List.getElem?_cons_zero, List.getElem?_cons_succ, List.drop_zero, List.drop_succ_cons, List.take_succ_cons, List.take_zero, List.length_cons, List.length_nil, Nat.zero_add, Nat.reduceAdd, Nat.le_refl, Nat.reduceLeDiff, D.pub, D.pubs, Tryz.results219]
  exact ⟨_, rfl, rfl, rfl⟩

theorem every_Backend (p : ABackend → Bool) (f : FuncId) (he : Enters Tryz.prog f) (l : List ABackend) (hl : l.length ≤ 1000000) (n : Int) (hp : ∀ x ∈ l, Pure Tryz.prog f [ABackend.d x] (fun d => d = bln (p x))) :
    Pure Tryz.prog 173 [.pd (.slice (rows ABackend.pd l)), int n, .fn f []] (fun d => d = bln (every p l n)) := by
  refine pure_of_run follows an_z72 Tryz.func173 rfl ok_z72 dst_z72 (by simp [Tryz.ntmps173]) ?_
  rw [run_start]
  simp only [ac_z72, go_sem, contS_seq, simprocAttr, rows_len]
  refine GifP.mk (fun h => ?_) (fun h => ?_)
  · refine (ContainsFunc_Backend (fun x => !p x) 219 (enters_of Tryz.func219 rfl rfl) [(1000001, 0)] [(1000001, [.fn f []])] (Cl.of rfl rfl rfl rfl rfl) l hl (fun x hx => every_Backend_1 p f he x (hp x hx))).callW (enters_of Tryz.func218 rfl rfl) _ [(5, 1000001)] rfl rfl rfl ?_
    rintro d rfl
    simp only [go_sem, contS_seq, simprocAttr]
    simp only [retK, fullK, iterK, resD, resA, AOp.ex, St.ev, Option.map_some, Option.bind_some, St.get, lk, reduceIte, Nat.reduceEqDiff, Option.getD_some, oneD, List.getElem?_cons_zero, List.getElem?_cons_succ, List.drop_zero, List.drop_succ_cons, List.take_succ_cons, List.take_zero, List.length_cons, List.length_nil, Nat.zero_add, Nat.reduceAdd, Nat.le_refl, Nat.reduceLeDiff, D.pub, D.pubs, Tryz.results173]
    exact ⟨_, rfl, rfl, congrArg bln (by simp [every, h, List.all_eq_not_any_not])⟩
  · simp only [retK, fullK, iterK, resD, resA, AOp.ex, St.ev, Option.map_some, Option.bind_some, St.get, lk, reduceIte, Nat.reduceEqDiff, Option.getD_some, oneD, List.getElem?_cons_zero, List.getElem?_cons_succ, List.drop_zero, List.drop_succ_cons, List.take_succ_cons, List.take_zero, List.length_cons, List.length_nil, Nat.zero_add, Nat.reduceAdd, Nat.le_refl, Nat.reduceLeDiff, D.pub, D.pubs, Tryz.results173]
    exact ⟨_, rfl, rfl, congrArg bln (by simp [every, h])⟩

theorem twice_int_1 (q : Int → Int → Bool) (f : FuncId) (he : Enters Tryz.prog f) (x y : Int) (hp : Pure Tryz.prog f [int x, int y] (fun d => d = bln (q x y))) :
    PureB Tryz.prog 154 [int y, .ptr 1000001 0, .ptr 1000002 0] [(1000001, [.fn f []]), (1000002, [int x])] (fun d => d = bln (q x y)) := by
  refine pureB_of_run follows an_z59 Tryz.func154 rfl ok_z59 dst_z59 (by simp [Tryz.ntmps154]) ?_
  rw [run_start]
  simp only [ac_z59, go_sem, contS_seq, simprocAttr]
  refine hp.callW he _ rfl rfl ?_
  rintro d rfl
  simp only [go_sem, contS_seq, simprocAttr]
  simp only [retK, fullK, iterK, resD, resA, AOp.ex, St.ev, Option.map_some, Option.bind_some, St.get, lk, reduceIte, Nat.reduceEqDiff, Option.getD_some, oneD, List.getElem?_cons_zero, List.getElem?_cons_succ, List.drop_zero, List.drop_succ_cons, List.take_succ_cons, List.take_zero, List.length_cons, List.length_nil, Nat.zero_add, Nat.reduceAdd, Nat.le_refl, Nat.reduceLeDiff, D.pub, D.pubs, Tryz.results154]
  exact ⟨_, rfl, rfl, rfl⟩

theorem twice_int (q : Int → Int → Bool) (f : FuncId) (he : Enters Tryz.prog f) (l : List Int) (hl : l.length ≤ 1000000) (hp : ∀ x ∈ l, ∀ y ∈ l, Pure Tryz.prog f [int x, int y] (fun d => d = bln (q x y))) :
    Pure Tryz.prog 112 [.pd (.slice (rows cInt l)), .fn f []] (fun d => d = bln (twice q l)) := by
  refine pure_of_run follows an_z41 Tryz.func112 rfl ok_z41 dst_z41 (by simp [Tryz.ntmps112]) ?_
  rw [run_start]
  simp only [ac_z41, go_sem, contS_seq, simprocAttr, rows_len]
  refine loopS (fun k st => ∃ i : Nat, k = l.length - i ∧ i ≤ l.length ∧ twiceFrom q l k i = twice q l ∧
    st = ⟨[(0, .pd (.slice (rows cInt l))), (3, .ptr 3 0), (7, .pd (.slice (rows cInt l))), (8, int l.length), (9, int i)], [(3, [.fn f []])], [], .no⟩) l.length _ (Weak.refl _ _) ⟨0, rfl, Nat.zero_le _, rfl, rfl⟩ ?_
  rintro k st ⟨i, rfl, hi, hr, rfl⟩
  by_cases hlt : i < l.length
  · obtain ⟨x, hx⟩ := at_lt hlt
    have hlt' : ((i : Int) < (l.length : Int)) = True := eq_true (by omega)
    have hle : (i ≤ l.length) = True := eq_true (by omega)
    have hw := i64_succ (show i < 1000000000 by omega)
    have hmx := List.mem_of_getElem? hx
    obtain ⟨m, hm⟩ : ∃ m, l.length - i = m + 1 := ⟨l.length - i - 1, by omega⟩
    rw [hm, twiceFrom, hx] at hr
    have hrows : rowsOK 1 (rows cInt l) = True := rowsOK_rows (f := cInt) (n := 1) (fun _ => rfl) l
    have htk : (rows cInt l).take i = rows cInt (l.take i) := by simp [rows, List.map_take]
    simp only [go_sem, contS_seq, simprocAttr, hlt', rows_get hx, rows_len, hrows, hle, htk]
    refine (ContainsFunc_int (fun y => q x y) 154 (enters_of Tryz.func154 rfl rfl) [(1000001, 0), (1000002, 0)] [(1000001, [.fn f []]), (1000002, [int x])] (Cl.of rfl rfl rfl rfl rfl) (l.take i) (by simp; omega)
      (fun y hy => twice_int_1 q f he x y (hp x hmx y (List.mem_of_mem_take hy)))).callW (enters_of Tryz.func151 rfl rfl) _ [(3, 1000001), (6, 1000002)] rfl rfl rfl ?_
    rintro d rfl
    simp only [go_sem, contS_seq, simprocAttr, hw]
    refine Gif.mk (fun h => ?_) (fun h => ?_)
    · simp only [h, Bool.true_or] at hr
      simp only [retK, fullK, iterK, resD, resA, AOp.ex, St.ev, Option.map_some, Option.bind_some, St.get, lk, reduceIte, Nat.reduceEqDiff, Option.getD_some, oneD, List.getElem?_cons_zero, List.getElem?_cons_succ, List.drop_zero, List.drop_succ_cons, List.take_succ_cons, List.take_zero, List.length_cons, List.length_nil, Nat.zero_add, Nat.reduceAdd, Nat.le_refl, Nat.reduceLeDiff, D.pub, D.pubs, Tryz.results112]
      exact ⟨_, rfl, rfl, congrArg bln hr⟩
    · simp only [h, Bool.false_or] at hr
      refine ⟨m, _, ?_, ?_, i + 1, ?_, ?_, hr, rfl⟩
      · omega
      · exact Weak.less (by simp [lessL, lk]) (by simp [lessL, lk]) (by simp [lessL, lk]) rfl
      · omega
      · omega
  · have hlt' : ((i : Int) < (l.length : Int)) = False := eq_false (by omega)
    rw [show l.length - i = 0 by omega, twiceFrom] at hr
    simp only [go_sem, contS_seq, simprocAttr, rows_len, hlt']
    simp only [retK, fullK, iterK, resD, resA, AOp.ex, St.ev, Option.map_some, Option.bind_some, St.get, lk, reduceIte, Nat.reduceEqDiff, Option.getD_some, oneD, List.getElem?_cons_zero, List.getElem?_cons_succ, List.drop_zero, List.drop_succ_cons, List.take_succ_cons, List.take_zero, List.length_cons, List.length_nil, Nat.zero_add, Nat.reduceAdd, Nat.le_refl, Nat.reduceLeDiff, D.pub, D.pubs, Tryz.results112]
    exact ⟨_, rfl, rfl, congrArg bln hr⟩

theorem twice_Listener_1 (q : AListener → AListener → Bool) (f : FuncId) (he : Enters Tryz.prog f) (x y : AListener) (hp : Pure Tryz.prog f [AListener.d x, AListener.d y] (fun d => d = bln (q x y))) :
    PureB Tryz.prog 160 [AListener.d y, .ptr 1000001 0, .ptr 1000002 0] [(1000001, [.fn f []]), (1000002, AListener.ds x)] (fun d => d = bln (q x y)) := by
  refine pureB_of_run follows an_z62 Tryz.func160 rfl ok_z62 dst_z62 (by simp [Tryz.ntmps160]) ?_
  rw [run_start]
  simp only [ac_z62, go_sem, contS_seq, simprocAttr]
  refine hp.callW he _ rfl rfl ?_
  rintro d rfl
  simp only [go_sem, contS_seq, simprocAttr]
  simp only [retK, fullK, iterK, resD, resA, AOp.ex, St.ev, Option.map_some, Option.bind_some, St.get, lk, reduceIte, Nat.reduceEqDiff, Option.getD_some, oneD, List.getElem?_cons_zero, List.getElem?_cons_succ, List.drop_zero, List.drop_succ_cons, List.take_succ_cons, List.take_zero, List.length_cons, List.length_nil, Nat.zero_add, Nat.reduceAdd, Nat.le_refl, Nat.reduceLeDiff, D.pub, D.pubs, Tryz.results160]
  exact ⟨_, rfl, rfl, rfl⟩

theorem twice_Listener (q : AListener → AListener → Bool) (f : FuncId) (he : Enters Tryz.prog f) (l : List AListener) (hl : l.length ≤ 1000000) (hp : ∀ x ∈ l, ∀ y ∈ l, Pure Tryz.prog f [AListener.d x, AListener.d y] (fun d => d = bln (q x y))) :
    Pure Tryz.prog 118 [.pd (.slice (rows AListener.pd l)), .fn f []] (fun d => d = bln (twice q l)) := by
  refine pure_of_run follows an_z43 Tryz.func118 rfl ok_z43 dst_z43 (by simp [Tryz.ntmps118]) ?_
  rw [run_start]
  simp only [ac_z43, go_sem, contS_seq, simprocAttr, rows_len]
  refine loopS (fun k st => ∃ i : Nat, k = l.length - i ∧ i ≤ l.length ∧ twiceFrom q l k i = twice q l ∧
    st = ⟨[(0, .pd (.slice (rows AListener.pd l))), (3, .ptr 3 0), (7, .pd (.slice (rows AListener.pd l))), (8, int l.length), (9, int i)], [(3, [.fn f []])], [], .no⟩) l.length _ (Weak.refl _ _) ⟨0, rfl, Nat.zero_le _, rfl, rfl⟩ ?_
  rintro k st ⟨i, rfl, hi, hr, rfl⟩
  by_cases hlt : i < l.length
  · obtain ⟨x, hx⟩ := at_lt hlt
    have hlt' : ((i : Int) < (l.length : Int)) = True := eq_true (by omega)
    have hle : (i ≤ l.length) = True := eq_true (by omega)
    have hw := i64_succ (show i < 1000000000 by omega)
    have hmx := List.mem_of_getElem? hx
    obtain ⟨m, hm⟩ : ∃ m, l.length - i = m + 1 := ⟨l.length - i - 1, by omega⟩
    rw [hm, twiceFrom, hx] at hr
    have hrows : rowsOK 9 (rows AListener.pd l) = True := rowsOK_rows (f := AListener.pd) (n := 9) (fun _ => rfl) l
    have htk : (rows AListener.pd l).take i = rows AListener.pd (l.take i) := by simp [rows, List.map_take]
    simp only [go_sem, contS_seq, simprocAttr, hlt', rows_get hx, rows_len, hrows, hle, htk]
    refine (ContainsFunc_Listener (fun y => q x y) 160 (enters_of Tryz.func160 rfl rfl) [(1000001, 0), (1000002, 0)] [(1000001, [.fn f []]), (1000002, AListener.ds x)] (Cl.of rfl rfl rfl rfl rfl) (l.take i) (by simp; omega)
      (fun y hy => twice_Listener_1 q f he x y (hp x hmx y (List.mem_of_mem_take hy)))).callW (enters_of Tryz.func156 rfl rfl) _ [(3, 1000001), (6, 1000002)] rfl rfl rfl ?_
    rintro d rfl
    simp only [go_sem, contS_seq, simprocAttr, hw]
    refine Gif.mk (fun h => ?_) (fun h => ?_)
    · simp only [h, Bool.true_or] at hr
      simp only [retK, fullK, iterK, resD, resA, AOp.ex, St.ev, Option.map_some, Option.bind_some, St.get, lk, reduceIte, Nat.reduceEqDiff, Option.getD_some, oneD, List.getElem?_cons_zero, List.getElem?_cons_succ, List.drop_zero, List.drop_succ_cons, List.take_succ_cons, List.take_zero, List.length_cons, List.length_nil, Nat.zero_add, Nat.reduceAdd, Nat.le_refl, Nat.reduceLeDiff, D.pub, D.pubs, Tryz.results118]
      exact ⟨_, rfl, rfl, congrArg bln hr⟩
    · simp only [h, Bool.false_or] at hr
      refine ⟨m, _, ?_, ?_, i + 1, ?_, ?_, hr, rfl⟩
      · omega
      · exact Weak.less (by simp [lessL, lk]) (by simp [lessL, lk]) (by simp [lessL, lk]) rfl
      · omega
      · omega
  · have hlt' : ((i : Int) < (l.length : Int)) = False := eq_false (by omega)
    rw [show l.length - i = 0 by omega, twiceFrom] at hr
    simp only [go_sem, contS_seq, simprocAttr, rows_len, hlt']
    simp only [retK, fullK, iterK, resD, resA, AOp.ex, St.ev, Option.map_some, Option.bind_some, St.get, lk, reduceIte, Nat.reduceEqDiff, Option.getD_some, oneD, List.getElem?_cons_zero, List.getElem?_cons_succ, List.drop_zero, List.drop_succ_cons, List.take_succ_cons, List.take_zero, List.length_cons, List.length_nil, Nat.zero_add, Nat.reduceAdd, Nat.le_refl, Nat.reduceLeDiff, D.pub, D.pubs, Tryz.results118]
    exact ⟨_, rfl, rfl, congrArg bln hr⟩

theorem twice_Parent_1 (q : AParent → AParent → Bool) (f : FuncId) (he : Enters Tryz.prog f) (x y : AParent) (hp : Pure Tryz.prog f [AParent.d x, AParent.d y] (fun d => d = bln (q x y))) :
    PureB Tryz.prog 162 [AParent.d y, .ptr 1000001 0, .ptr 1000002 0] [(1000001, [.fn f []]), (1000002, AParent.ds x)] (fun d => d = bln (q x y)) := by
  refine pureB_of_run follows an_z64 Tryz.func162 rfl ok_z64 dst_z64 (by simp [Tryz.ntmps162]) ?_
  rw [run_start]
  simp only [ac_z64, go_sem, contS_seq, simprocAttr]
  refine hp.callW he _ rfl rfl ?_
  rintro d rfl
  simp only [go_sem, contS_seq, simprocAttr]
  simp only [retK, fullK, iterK, resD, resA, AOp.ex, St.ev, Option.map_some, Option.bind_some, St.get, lk, reduceIte, Nat.reduceEqDiff, Option.getD_some, oneD, List.getElem?_cons_zero, List.getElem?_cons_succ, List.drop_zero, List.drop_succ_cons, List.take_succ_cons, List.take_zero, List.length_cons, List.length_nil, Nat.zero_add, Nat.reduceAdd, Nat.le_refl, Nat.reduceLeDiff, D.pub, D.pubs, Tryz.results162]
  exact ⟨_, rfl, rfl, rfl⟩

theorem twice_Parent (q : AParent → AParent → Bool) (f : FuncId) (he : Enters Tryz.prog f) (l : List AParent) (hl : l.length ≤ 1000000) (hp : ∀ x ∈ l, ∀ y ∈ l, Pure Tryz.prog f [AParent.d x, AParent.d y] (fun d => d = bln (q x y))) :
    Pure Tryz.prog 119 [.pd (.slice (rows AParent.pd l)), .fn f []] (fun d => d = bln (twice q l)) := by
  refine pure_of_run follows an_z44 Tryz.func119 rfl ok_z44 dst_z44 (by simp [Tryz.ntmps119]) ?_
  rw [run_start]
  simp only [ac_z44, go_sem, contS_seq, simprocAttr, rows_len]
  refine loopS (fun k st => ∃ i : Nat, k = l.length - i ∧ i ≤ l.length ∧ twiceFrom q l k i = twice q l ∧
    st = ⟨[(0, .pd (.slice (rows AParent.pd l))), (3, .ptr 3 0), (7, .pd (.slice (rows AParent.pd l))), (8, int l.length), (9, int i)], [(3, [.fn f []])], [], .no⟩) l.length _ (Weak.refl _ _) ⟨0, rfl, Nat.zero_le _, rfl, rfl⟩ ?_
  rintro k st ⟨i, rfl, hi, hr, rfl⟩
  by_cases hlt : i < l.length
  · obtain ⟨x, hx⟩ := at_lt hlt
    have hlt' : ((i : Int) < (l.length : Int)) = True := eq_true (by omega)
    have hle : (i ≤ l.length) = True := eq_true (by omega)
    have hw := i64_succ (show i < 1000000000 by omega)
    have hmx := List.mem_of_getElem? hx
    obtain ⟨m, hm⟩ : ∃ m, l.length - i = m + 1 := ⟨l.length - i - 1, by omega⟩
    rw [hm, twiceFrom, hx] at hr
    have hrows : rowsOK 4 (rows AParent.pd l) = True := rowsOK_rows (f := AParent.pd) (n := 4) (fun _ => rfl) l
    have htk : (rows AParent.pd l).take i = rows AParent.pd (l.take i) := by simp [rows, List.map_take]
    simp only [go_sem, contS_seq, simprocAttr, hlt', rows_get hx, rows_len, hrows, hle, htk]
    refine (ContainsFunc_Parent (fun y => q x y) 162 (enters_of Tryz.func162 rfl rfl) [(1000001, 0), (1000002, 0)] [(1000001, [.fn f []]), (1000002, AParent.ds x)] (Cl.of rfl rfl rfl rfl rfl) (l.take i) (by simp; omega)
      (fun y hy => twice_Parent_1 q f he x y (hp x hmx y (List.mem_of_mem_take hy)))).callW (enters_of Tryz.func161 rfl rfl) _ [(3, 1000001), (6, 1000002)] rfl rfl rfl ?_
    rintro d rfl
    simp only [go_sem, contS_seq, simprocAttr, hw]
    refine Gif.mk (fun h => ?_) (fun h => ?_)
    · simp only [h, Bool.true_or] at hr
      simp only [retK, fullK, iterK, resD, resA, AOp.ex, St.ev, Option.map_some, Option.bind_some, St.get, lk, reduceIte, Nat.reduceEqDiff, Option.getD_some, oneD, List.getElem?_cons_zero, List.getElem?_cons_succ, List.drop_zero, List.drop_succ_cons, List.take_succ_cons, List.take_zero, List.length_cons, List.length_nil, Nat.zero_add, Nat.reduceAdd, Nat.le_refl, Nat.reduceLeDiff, D.pub, D.pubs, Tryz.results119]
      exact ⟨_, rfl, rfl, congrArg bln hr⟩
    · simp only [h, Bool.false_or] at hr
      refine ⟨m, _, ?_, ?_, i + 1, ?_, ?_, hr, rfl⟩
      · omega
      · exact Weak.less (by simp [lessL, lk]) (by simp [lessL, lk]) (by simp [lessL, lk]) rfl
      · omega
      · omega
  · have hlt' : ((i : Int) < (l.length : Int)) = False := eq_false (by omega)
    rw [show l.length - i = 0 by omega, twiceFrom] at hr
    simp only [go_sem, contS_seq, simprocAttr, rows_len, hlt']
    simp only [retK, fullK, iterK, resD, resA, AOp.ex, St.ev, Option.map_some, Option.bind_some, St.get, lk, reduceIte, Nat.reduceEqDiff, Option.getD_some, oneD, List.getElem?_cons_zero, List.getElem?_cons_succ, List.drop_zero, List.drop_succ_cons, List.take_succ_cons, List.take_zero, List.length_cons, List.length_nil, Nat.zero_add, Nat.reduceAdd, Nat.le_refl, Nat.reduceLeDiff, D.pub, D.pubs, Tryz.results119]
    exact ⟨_, rfl, rfl, congrArg bln hr⟩

theorem twice_string_1 (q : ByteArray → ByteArray → Bool) (f : FuncId) (he : Enters Tryz.prog f) (x y : ByteArray) (hp : Pure Tryz.prog f [str x, str y] (fun d => d = bln (q x y))) :
    PureB Tryz.prog 164 [str y, .ptr 1000001 0, .ptr 1000002 0] [(1000001, [.fn f []]), (1000002, [str x])] (fun d => d = bln (q x y)) := by
  refine pureB_of_run follows an_z66 Tryz.func164 rfl ok_z66 dst_z66 (by simp [Tryz.ntmps164]) ?_
  rw [run_start]
  simp only [ac_z66, go_sem, contS_seq, simprocAttr]
  refine hp.callW he _ rfl rfl ?_
  rintro d rfl
  simp only [go_sem, contS_seq, simprocAttr]
  simp only [retK, fullK, iterK, resD, resA, AOp.ex, St.ev, Option.map_some, Option.bind_some, St.get, lk, reduceIte, Nat.reduceEqDiff, Option.getD_some, oneD, List.getElem?_cons_zero, List.getElem?_cons_succ, List.drop_zero, List.drop_succ_cons, List.take_succ_cons, List.take_zero, List.length_cons, List.length_nil, Nat.zero_add, Nat.reduceAdd, Nat.le_refl, Nat.reduceLeDiff, D.pub, D.pubs, Tryz.results164]
  exact ⟨_, rfl, rfl, rfl⟩

theorem twice_string (q : ByteArray → ByteArray → Bool) (f : FuncId) (he : Enters Tryz.prog f) (l : List ByteArray) (hl : l.length ≤ 1000000) (hp : ∀ x ∈ l, ∀ y ∈ l, Pure Tryz.prog f [str x, str y] (fun d => d = bln (q x y))) :
    Pure Tryz.prog 121 [.pd (.slice (rows cStr l)), .fn f []] (fun d => d = bln (twice q l)) := by
  refine pure_of_run follows an_z45 Tryz.func121 rfl ok_z45 dst_z45 (by simp [Tryz.ntmps121]) ?_
  rw [run_start]
  simp only [ac_z45, go_sem, contS_seq, simprocAttr, rows_len]
  refine loopS (fun k st => ∃ i : Nat, k = l.length - i ∧ i ≤ l.length ∧ twiceFrom q l k i = twice q l ∧
    st = ⟨[(0, .pd (.slice (rows cStr l))), (3, .ptr 3 0), (7, .pd (.slice (rows cStr l))), (8, int l.length), (9, int i)], [(3, [.fn f []])], [], .no⟩) l.length _ (Weak.refl _ _) ⟨0, rfl, Nat.zero_le _, rfl, rfl⟩ ?_
  rintro k st ⟨i, rfl, hi, hr, rfl⟩
  by_cases hlt : i < l.length
  · obtain ⟨x, hx⟩ := at_lt hlt
    have hlt' : ((i : Int) < (l.length : Int)) = True := eq_true (by omega)
    have hle : (i ≤ l.length) = True := eq_true (by omega)
    have hw := i64_succ (show i < 1000000000 by omega)
    have hmx := List.mem_of_getElem? hx
    obtain ⟨m, hm⟩ : ∃ m, l.length - i = m + 1 := ⟨l.length - i - 1, by omega⟩
    rw [hm, twiceFrom, hx] at hr
    have hrows : rowsOK 1 (rows cStr l) = True := rowsOK_rows (f := cStr) (n := 1) (fun _ => rfl) l
    have htk : (rows cStr l).take i = rows cStr (l.take i) := by simp [rows, List.map_take]
    simp only [go_sem, contS_seq, simprocAttr, hlt', rows_get hx, rows_len, hrows, hle, htk]
    refine (ContainsFunc_string (fun y => q x y) 164 (enters_of Tryz.func164 rfl rfl) [(1000001, 0), (1000002, 0)] [(1000001, [.fn f []]), (1000002, [str x])] (Cl.of rfl rfl rfl rfl rfl) (l.take i) (by simp; omega)
      (fun y hy => twice_string_1 q f he x y (hp x hmx y (List.mem_of_mem_take hy)))).callW (enters_of Tryz.func163 rfl rfl) _ [(3, 1000001), (6, 1000002)] rfl rfl rfl ?_
    rintro d rfl
    simp only [go_sem, contS_seq, simprocAttr, hw]
    refine Gif.mk (fun h => ?_) (fun h => ?_)
    · simp only [h, Bool.true_or] at hr
      simp only [retK, fullK, iterK, resD, resA, AOp.ex, St.ev, Option.map_some, Option.bind_some, St.get, lk, reduceIte, Nat.reduceEqDiff, Option.getD_some, oneD, List.getElem?_cons_zero, List.getElem?_cons_succ, List.drop_zero, List.drop_succ_cons, List.take_succ_cons, List.take_zero, List.length_cons, List.length_nil, Nat.zero_add, Nat.reduceAdd, Nat.le_refl, Nat.reduceLeDiff, D.pub, D.pubs, Tryz.results121]
      exact ⟨_, rfl, rfl, congrArg bln hr⟩
    · simp only [h, Bool.false_or] at hr
      refine ⟨m, _, ?_, ?_, i + 1, ?_, ?_, hr, rfl⟩
      · omega
      · exact Weak.less (by simp [lessL, lk]) (by simp [lessL, lk]) (by simp [lessL, lk]) rfl
      · omega
      · omega
  · have hlt' : ((i : Int) < (l.length : Int)) = False := eq_false (by omega)
    rw [show l.length - i = 0 by omega, twiceFrom] at hr
    simp only [go_sem, contS_seq, simprocAttr, rows_len, hlt']
    simp only [retK, fullK, iterK, resD, resA, AOp.ex, St.ev, Option.map_some, Option.bind_some, St.get, lk, reduceIte, Nat.reduceEqDiff, Option.getD_some, oneD, List.getElem?_cons_zero, List.getElem?_cons_succ, List.drop_zero, List.drop_succ_cons, List.take_succ_cons, List.take_zero, List.length_cons, List.length_nil, Nat.zero_add, Nat.reduceAdd, Nat.le_refl, Nat.reduceLeDiff, D.pub, D.pubs, Tryz.results121]
    exact ⟨_, rfl, rfl, congrArg bln hr⟩

end Go.Proofs.YtjhomppadppfnaaGreatDoor
