/-
  The abstract code of the functions of the packages plane and hull, as a program of ours printed it; each is held by the kernel against the model's code.
-/
import Derived.Test.YtlbafapmhjfobaaGreatDoorAbs4
import Derived.Test.YtlbafapmhjfobaaGreatDoorProg
set_option linter.unusedVariables false
set_option linter.unusedSimpArgs false
namespace Go.Proofs.YtlbafapmhjfobaaGreatDoor
set_option maxRecDepth 100000
/- collet/colletlaw11.vec -/
def A7 : ACode :=
 .seq
 (.reg false [⟨(some 6), .alloc [.v (.int .i64 0), .v (.int .i64 0), .v (.int .i64 0)], [], none⟩])
 (.seq
 (.reg false [⟨(some 7), .mv (.t 0), [], none⟩,
 ⟨(some 8), .mv (.t 1), [], none⟩,
 ⟨(some 9), .mv (.t 2), [], none⟩,
 ⟨(some 10), .build [.v (.int .i64 0), .v (.int .i64 0), .v (.int .i64 0)] [(0, 1, (.t 7)), (1, 1, (.t 8)), (2, 1, (.t 9))], [0, 1, 2], none⟩,
 ⟨none, .store 3 (.t 6) (.t 10), [3, 0, 1, 2, 3], none⟩])
 (.ret))
theorem A7_comp : Tryz.f7.body.bind (comp Tryz.prog Tryz.f7.ntmps []) = some A7 := by kernel_rfl
/- collet/plane.Sub -/
def A9 : ACode :=
 .seq
 (.reg false [⟨(some 2), .box (.t 0), [], none⟩,
 ⟨(some 3), .box (.t 1), [], none⟩,
 ⟨(some 4), .alloc [.v (.int .i64 0), .v (.int .i64 0), .v (.int .i64 0)], [], none⟩])
 (.seq
 (.reg false [⟨(some 5), .faddr 0 (.t 2), [], none⟩,
 ⟨(some 6), .load false 1 (.t 5), [0], none⟩,
 ⟨(some 7), .faddr 0 (.t 3), [], none⟩,
 ⟨(some 8), .load false 1 (.t 7), [2], none⟩,
 ⟨(some 9), .bin .sub (.t 6) (.t 8), [1, 3], none⟩,
 ⟨(some 10), .faddr 1 (.t 2), [], none⟩,
 ⟨(some 11), .load false 1 (.t 10), [5], none⟩,
 ⟨(some 12), .faddr 1 (.t 3), [], none⟩,
 ⟨(some 13), .load false 1 (.t 12), [7], none⟩,
 ⟨(some 14), .bin .sub (.t 11) (.t 13), [6, 8], none⟩,
 ⟨(some 15), .faddr 2 (.t 2), [], none⟩,
 ⟨(some 16), .load false 1 (.t 15), [10], none⟩,
 ⟨(some 17), .faddr 2 (.t 3), [], none⟩,
 ⟨(some 18), .load false 1 (.t 17), [12], none⟩,
 ⟨(some 19), .bin .sub (.t 16) (.t 18), [11, 13], none⟩,
 ⟨(some 20), .build [.v (.int .i64 0), .v (.int .i64 0), .v (.int .i64 0)] [(0, 1, (.t 9)), (1, 1, (.t 14)), (2, 1, (.t 19))], [4, 9, 14], none⟩,
 ⟨none, .store 3 (.t 4) (.t 20), [15, 0, 1, 2, 3, 4, 5, 6, 7, 8, 9, 10, 11, 12, 13, 14, 15], none⟩])
 (.ret))
theorem A9_comp : Tryz.f9.body.bind (comp Tryz.prog Tryz.f9.ntmps []) = some A9 := by kernel_rfl
/- collet/plane.Dot -/
def A10 : ACode :=
 .seq
 (.reg false [⟨(some 2), .box (.t 0), [], none⟩,
 ⟨(some 3), .box (.t 1), [], none⟩,
 ⟨(some 4), .mv (.k false [.v (.int .i64 0)]), [], none⟩])
 (.seq
 (.reg false [⟨(some 5), .faddr 0 (.t 2), [], none⟩,
 ⟨(some 6), .load false 1 (.t 5), [0], none⟩,
 ⟨(some 7), .faddr 0 (.t 3), [], none⟩,
 ⟨(some 8), .load false 1 (.t 7), [2], none⟩,
 ⟨(some 9), .bin .mul (.t 6) (.t 8), [1, 3], none⟩,
 ⟨(some 10), .faddr 1 (.t 2), [], none⟩,
 ⟨(some 11), .load false 1 (.t 10), [5], none⟩,
 ⟨(some 12), .faddr 1 (.t 3), [], none⟩,
 ⟨(some 13), .load false 1 (.t 12), [7], none⟩,
 ⟨(some 14), .bin .mul (.t 11) (.t 13), [6, 8], none⟩,
 ⟨(some 15), .bin .add (.t 9) (.t 14), [4, 9], none⟩,
 ⟨(some 16), .faddr 2 (.t 2), [], none⟩,
 ⟨(some 17), .load false 1 (.t 16), [11], none⟩,
 ⟨(some 18), .faddr 2 (.t 3), [], none⟩,
 ⟨(some 19), .load false 1 (.t 18), [13], none⟩,
 ⟨(some 20), .bin .mul (.t 17) (.t 19), [12, 14], none⟩,
 ⟨(some 21), .bin .add (.t 15) (.t 20), [10, 15], none⟩,
 ⟨(some 4), .mv (.t 21), [16, 0, 1, 2, 3, 4, 5, 6, 7, 8, 9, 10, 11, 12, 13, 14, 15, 16], none⟩])
 (.ret))
theorem A10_comp : Tryz.f10.body.bind (comp Tryz.prog Tryz.f10.ntmps []) = some A10 := by kernel_rfl
/- collet/colletref07.Vec -/
def A27 : ACode :=
 .seq
 (.reg false [⟨(some 4), .alloc [.v (.int .i64 0), .v (.int .i64 0), .v (.int .i64 0)], [], none⟩])
 (.seq
 (.reg false [⟨(some 8), .mv (.t 0), [], none⟩,
 ⟨(some 9), .mv (.t 1), [], none⟩,
 ⟨(some 10), .bin .mul (.k false [.v (.int .i64 2)]) (.t 9), [1], none⟩,
 ⟨(some 11), .bin .add (.t 10) (.k false [.v (.int .i64 1)]), [2], none⟩,
 ⟨(some 12), .call 25 [(.t 8), (.t 11)], [0, 3], none⟩,
 ⟨(some 13), .mv (.t 1), [], none⟩,
 ⟨(some 14), .bin .sub (.t 12) (.t 13), [4, 5], none⟩,
 ⟨(some 5), .mv (.t 14), [6, 4, 0, 1, 2, 3, 4, 5, 6], none⟩])
 (.seq
 (.reg false [⟨(some 15), .mv (.t 0), [], none⟩,
 ⟨(some 16), .mv (.t 1), [], none⟩,
 ⟨(some 17), .bin .mul (.k false [.v (.int .i64 2)]) (.t 16), [1], none⟩,
 ⟨(some 18), .bin .add (.t 17) (.k false [.v (.int .i64 1)]), [2], none⟩,
 ⟨(some 19), .call 25 [(.t 15), (.t 18)], [0, 3], none⟩,
 ⟨(some 20), .mv (.t 1), [], none⟩,
 ⟨(some 21), .bin .sub (.t 19) (.t 20), [4, 5], none⟩,
 ⟨(some 6), .mv (.t 21), [6, 4, 0, 1, 2, 3, 4, 5, 6], none⟩])
 (.seq
 (.reg false [⟨(some 22), .mv (.t 0), [], none⟩,
 ⟨(some 23), .mv (.t 1), [], none⟩,
 ⟨(some 24), .bin .mul (.k false [.v (.int .i64 2)]) (.t 23), [1], none⟩,
 ⟨(some 25), .bin .add (.t 24) (.k false [.v (.int .i64 1)]), [2], none⟩,
 ⟨(some 26), .call 25 [(.t 22), (.t 25)], [0, 3], none⟩,
 ⟨(some 27), .mv (.t 1), [], none⟩,
 ⟨(some 28), .bin .sub (.t 26) (.t 27), [4, 5], none⟩,
 ⟨(some 7), .mv (.t 28), [6, 4, 0, 1, 2, 3, 4, 5, 6], none⟩])
 (.seq
 (.reg false [⟨(some 29), .mv (.t 5), [], none⟩,
 ⟨(some 30), .mv (.t 6), [], none⟩,
 ⟨(some 31), .mv (.t 7), [], none⟩,
 ⟨(some 32), .build [.v (.int .i64 0), .v (.int .i64 0), .v (.int .i64 0)] [(0, 1, (.t 29)), (1, 1, (.t 30)), (2, 1, (.t 31))], [0, 1, 2], none⟩,
 ⟨none, .store 3 (.t 4) (.t 32), [3, 0, 1, 2, 3], none⟩])
 (.ret)))))
theorem A27_comp : Tryz.f27.body.bind (comp Tryz.prog Tryz.f27.ntmps []) = some A27 := by kernel_rfl
/- collet/plane.In -/
def A30 : ACode :=
 .seq
 (.reg false [⟨(some 1), .box (.t 0), [], none⟩,
 ⟨(some 2), .mv (.k false [.v (.bool false)]), [], none⟩])
 (.seq
 (.reg false [⟨(some 3), .faddr 0 (.t 1), [], none⟩,
 ⟨(some 4), .load false 1 (.t 3), [0], none⟩,
 ⟨(some 5), .faddr 1 (.t 1), [], none⟩,
 ⟨(some 6), .load false 1 (.t 5), [2], none⟩,
 ⟨(some 7), .faddr 2 (.t 1), [], none⟩,
 ⟨(some 8), .load false 1 (.t 7), [4], none⟩,
 ⟨(some 9), .bslice 1 [(.t 4), (.t 6), (.t 8)], [1, 3, 5], none⟩,
 ⟨(some 10), .call 69 [(.k false [.v (.int .i64 24)]), (.t 9)], [6], none⟩,
 ⟨(some 2), .mv (.t 10), [7, 7, 0, 1, 2, 3, 4, 5, 6, 7], none⟩])
 (.ret))
theorem A30_comp : Tryz.f30.body.bind (comp Tryz.prog Tryz.f30.ntmps []) = some A30 := by kernel_rfl
/- collet/plane.Add -/
def A33 : ACode :=
 .seq
 (.reg false [⟨(some 2), .box (.t 0), [], none⟩,
 ⟨(some 3), .box (.t 1), [], none⟩,
 ⟨(some 4), .alloc [.v (.int .i64 0), .v (.int .i64 0), .v (.int .i64 0)], [], none⟩])
 (.seq
 (.reg false [⟨(some 5), .faddr 0 (.t 2), [], none⟩,
 ⟨(some 6), .load false 1 (.t 5), [0], none⟩,
 ⟨(some 7), .faddr 0 (.t 3), [], none⟩,
 ⟨(some 8), .load false 1 (.t 7), [2], none⟩,
 ⟨(some 9), .bin .add (.t 6) (.t 8), [1, 3], none⟩,
 ⟨(some 10), .faddr 1 (.t 2), [], none⟩,
 ⟨(some 11), .load false 1 (.t 10), [5], none⟩,
 ⟨(some 12), .faddr 1 (.t 3), [], none⟩,
 ⟨(some 13), .load false 1 (.t 12), [7], none⟩,
 ⟨(some 14), .bin .add (.t 11) (.t 13), [6, 8], none⟩,
 ⟨(some 15), .faddr 2 (.t 2), [], none⟩,
 ⟨(some 16), .load false 1 (.t 15), [10], none⟩,
 ⟨(some 17), .faddr 2 (.t 3), [], none⟩,
 ⟨(some 18), .load false 1 (.t 17), [12], none⟩,
 ⟨(some 19), .bin .add (.t 16) (.t 18), [11, 13], none⟩,
 ⟨(some 20), .build [.v (.int .i64 0), .v (.int .i64 0), .v (.int .i64 0)] [(0, 1, (.t 9)), (1, 1, (.t 14)), (2, 1, (.t 19))], [4, 9, 14], none⟩,
 ⟨none, .store 3 (.t 4) (.t 20), [15, 0, 1, 2, 3, 4, 5, 6, 7, 8, 9, 10, 11, 12, 13, 14, 15], none⟩])
 (.ret))
theorem A33_comp : Tryz.f33.body.bind (comp Tryz.prog Tryz.f33.ntmps []) = some A33 := by kernel_rfl
/- collet/hull.Check -/
def A34 : ACode :=
 .seq
 (.reg false [⟨(some 2), .mv (.k false [.v (.int .i64 0)]), [], none⟩])
 (.seq
 (.reg false [⟨(some 3), .mv (.f 70), [], none⟩])
 (.seq
 (.block 0 (.seq
 (.reg false [⟨(some 5), .mv (.t 0), [], none⟩,
 ⟨(some 6), .len (.t 5), [0], none⟩,
 ⟨(some 7), .bin .gtr (.t 6) (.k false [.v (.int .i64 48)]), [1], none⟩,
 ⟨(some 4), .mv (.t 7), [2], none⟩])
 (.cond (.t 4)
 (.seq
 (.reg false [⟨(some 2), .mv (.k false [.v (.int .i64 2)]), [], none⟩])
 (.ret))
 (.seq
 (.reg false [⟨(some 9), .mv (.t 0), [], none⟩,
 ⟨(some 10), .mv (.t 3), [], none⟩,
 ⟨(some 11), .call 71 [(.t 9), (.t 10)], [0, 1], none⟩,
 ⟨(some 8), .mv (.t 11), [2, 2], none⟩])
 (.cond (.t 8)
 (.seq
 (.reg false [⟨(some 2), .mv (.k false [.v (.int .i64 3)]), [], none⟩])
 (.ret))
 (.seq
 (.reg false [⟨(some 13), .mv (.t 0), [], none⟩,
 ⟨(some 14), .call 72 [(.t 13)], [0], none⟩,
 ⟨(some 12), .mv (.t 14), [1, 1], none⟩])
 (.cond (.t 12)
 (.seq
 (.reg false [⟨(some 2), .mv (.k false [.v (.int .i64 11)]), [], none⟩])
 (.ret))
 (.skip))))))))
 (.seq
 (.reg false [⟨(some 2), .mv (.k false [.v (.int .i64 0)]), [], none⟩])
 (.ret))))
theorem A34_comp : Tryz.f34.body.bind (comp Tryz.prog Tryz.f34.ntmps []) = some A34 := by kernel_rfl
/- collet/hull.distinct -/
def A35 : ACode :=
 .seq
 (.reg false [⟨(some 2), .mv (.k false [.v (.slice none 0 0)]), [], none⟩])
 (.seq
 (.reg false [⟨(some 3), .mv (.t 0), [], none⟩,
 ⟨(some 4), .call 73 [(.t 3)], [0], none⟩,
 ⟨(some 0), .mv (.t 4), [1, 1, 0, 1], none⟩])
 (.seq
 (.reg false [⟨(some 5), .mv (.t 0), [], none⟩,
 ⟨(some 6), .call 74 [(.t 5), (.f 75)], [0], none⟩])
 (.seq
 (.reg false [⟨(some 7), .mv (.t 0), [], none⟩,
 ⟨(some 8), .call 76 [(.t 7)], [0], none⟩,
 ⟨(some 2), .mv (.t 8), [1, 1, 0, 1], none⟩])
 (.ret))))
theorem A35_comp : Tryz.f35.body.bind (comp Tryz.prog Tryz.f35.ntmps []) = some A35 := by kernel_rfl
/- collet/hull.triples -/
def A36 : ACode :=
 .seq
 (.reg false [⟨(some 1), .box (.t 0), [], none⟩,
 ⟨(some 2), .mv (.k false [.v (.nilFunc)]), [], none⟩])
 (.seq
 (.frz [] (.reg false [⟨(some 3), .mkfn 77 [] [(.t 1)], [], none⟩,
 ⟨(some 2), .mv (.t 3), [0, 0], none⟩]))
 (.ret))
theorem A36_comp : Tryz.f36.body.bind (comp Tryz.prog Tryz.f36.ntmps [1]) = some A36 := by kernel_rfl
/- collet/hull.beyond -/
def A37 : ACode :=
 .seq
 (.reg false [⟨(some 3), .box (.t 1), [], none⟩,
 ⟨(some 4), .mv (.k false [.v (.bool false)]), [], none⟩])
 (.seq
 (.frz [] (.reg false [⟨(some 5), .mv (.t 0), [], none⟩,
 ⟨(some 6), .mkfn 80 [] [(.t 3)], [], none⟩,
 ⟨(some 7), .call 71 [(.t 5), (.t 6)], [0, 1], none⟩,
 ⟨(some 4), .mv (.t 7), [2, 2, 0, 1, 2], none⟩]))
 (.ret))
theorem A37_comp : Tryz.f37.body.bind (comp Tryz.prog Tryz.f37.ntmps [1]) = some A37 := by kernel_rfl
/- collet/plane.Compare -/
def A39 : ACode :=
 .seq
 (.reg false [⟨(some 2), .box (.t 0), [], none⟩,
 ⟨(some 3), .box (.t 1), [], none⟩,
 ⟨(some 4), .mv (.k false [.v (.int .i64 0)]), [], none⟩])
 (.scope (.seq
 (.reg false [⟨(some 5), .mv (.k false [.v (.int .i64 0)]), [], none⟩])
 (.seq
 (.skip)
 (.seq
 (.seq
 (.reg false [⟨(some 8), .faddr 0 (.t 2), [], none⟩,
 ⟨(some 9), .faddr 0 (.t 8), [0], none⟩,
 ⟨(some 10), .load false 1 (.t 9), [1], none⟩,
 ⟨(some 11), .faddr 0 (.t 3), [], none⟩,
 ⟨(some 12), .faddr 0 (.t 11), [3], none⟩,
 ⟨(some 13), .load false 1 (.t 12), [4], none⟩,
 ⟨(some 14), .build [.v (.int .i64 0), .v (.int .i64 0)] [(0, 1, (.t 10)), (1, 1, (.t 13))], [2, 5], none⟩,
 ⟨(some 15), .faddr 0 (.t 2), [], none⟩,
 ⟨(some 16), .faddr 1 (.t 15), [7], none⟩,
 ⟨(some 17), .load false 1 (.t 16), [8], none⟩,
 ⟨(some 18), .faddr 0 (.t 3), [], none⟩,
 ⟨(some 19), .faddr 1 (.t 18), [10], none⟩,
 ⟨(some 20), .load false 1 (.t 19), [11], none⟩,
 ⟨(some 21), .build [.v (.int .i64 0), .v (.int .i64 0)] [(0, 1, (.t 17)), (1, 1, (.t 20))], [9, 12], none⟩,
 ⟨(some 22), .faddr 0 (.t 2), [], none⟩,
 ⟨(some 23), .faddr 2 (.t 22), [14], none⟩,
 ⟨(some 24), .load false 1 (.t 23), [15], none⟩,
 ⟨(some 25), .faddr 0 (.t 3), [], none⟩,
 ⟨(some 26), .faddr 2 (.t 25), [17], none⟩,
 ⟨(some 27), .load false 1 (.t 26), [18], none⟩,
 ⟨(some 28), .build [.v (.int .i64 0), .v (.int .i64 0)] [(0, 1, (.t 24)), (1, 1, (.t 27))], [16, 19], none⟩,
 ⟨(some 29), .faddr 3 (.t 2), [], none⟩,
 ⟨(some 30), .load false 1 (.t 29), [21], none⟩,
 ⟨(some 31), .faddr 3 (.t 3), [], none⟩,
 ⟨(some 32), .load false 1 (.t 31), [23], none⟩,
 ⟨(some 33), .build [.v (.int .i64 0), .v (.int .i64 0)] [(0, 1, (.t 30)), (1, 1, (.t 32))], [22, 24], none⟩,
 ⟨(some 34), .bslice 2 [(.t 14), (.t 21), (.t 28), (.t 33)], [6, 13, 20, 25], none⟩,
 ⟨(some 35), .len (.t 34), [26], none⟩,
 ⟨(some 36), .mv (.k false [.v (.int .i64 0)]), [], none⟩])
 (.block 0 (.loop (.seq
 (.reg false [⟨(some 37), .bin .lss (.t 36) (.t 35), [], none⟩])
 (.seq
 (.cond (.t 37)
 (.skip)
 (.exit 0))
 (.seq
 (.block 1 (.seq
 (.reg false [⟨(some 38), .ixsl 2 (.t 34) (.t 36), [], none⟩,
 ⟨(some 39), .load true 2 (.t 38), [0], none⟩,
 ⟨(some 7), .alloc [.v (.int .i64 0), .v (.int .i64 0)], [], none⟩,
 ⟨none, .store 2 (.t 7) (.t 39), [2, 1, 0, 1, 2], none⟩])
 (.seq
 (.reg false [⟨(some 40), .ixarr 2 1 (.t 7) (.k false [.v (.int .i64 0)]), [], none⟩,
 ⟨(some 41), .load false 1 (.t 40), [0], none⟩,
 ⟨(some 42), .ixarr 2 1 (.t 7) (.k false [.v (.int .i64 1)]), [], none⟩,
 ⟨(some 43), .load false 1 (.t 42), [2], none⟩,
 ⟨(some 44), .call 83 [(.t 41), (.t 43)], [1, 3], none⟩,
 ⟨(some 5), .mv (.t 44), [4, 4, 0, 1, 2, 3, 4], none⟩])
 (.seq
 (.reg false [⟨(some 45), .mv (.t 5), [], none⟩])
 (.block 2 (.seq
 (.reg false [⟨(some 47), .bin .eql (.t 45) (.k false [.v (.int .i64 0)]), [], none⟩,
 ⟨(some 46), .mv (.t 47), [0], none⟩])
 (.cond (.t 46)
 (.skip)
 (.exit 0))))))))
 (.reg false [⟨(some 48), .bin .add (.t 36) (.k false [.v (.int .i64 1)]), [], none⟩,
 ⟨(some 36), .mv (.t 48), [0], none⟩])))))))
 (.seq
 (.reg false [⟨(some 49), .mv (.t 5), [], none⟩,
 ⟨(some 4), .mv (.t 49), [0, 0], none⟩])
 (.ret))))))
theorem A39_comp : Tryz.f39.body.bind (comp Tryz.prog Tryz.f39.ntmps []) = some A39 := by kernel_rfl
/- collet/plane.Valid -/
def A40 : ACode :=
 .seq
 (.reg false [⟨(some 1), .box (.t 0), [], none⟩,
 ⟨(some 2), .mv (.k false [.v (.bool false)]), [], none⟩])
 (.seq
 (.reg false [⟨(some 3), .faddr 0 (.t 1), [], none⟩,
 ⟨(some 4), .faddr 0 (.t 3), [0], none⟩,
 ⟨(some 5), .load false 1 (.t 4), [1], none⟩,
 ⟨(some 6), .faddr 0 (.t 1), [], none⟩,
 ⟨(some 7), .faddr 1 (.t 6), [3], none⟩,
 ⟨(some 8), .load false 1 (.t 7), [4], none⟩,
 ⟨(some 9), .faddr 0 (.t 1), [], none⟩,
 ⟨(some 10), .faddr 2 (.t 9), [6], none⟩,
 ⟨(some 11), .load false 1 (.t 10), [7], none⟩,
 ⟨(some 12), .bslice 1 [(.t 5), (.t 8), (.t 11)], [2, 5, 8], none⟩,
 ⟨(some 13), .call 69 [(.k false [.v (.int .i64 4608)]), (.t 12)], [9], none⟩,
 ⟨(some 14), .mv (.t 13), [10, 10], none⟩,
 ⟨(some 15), .faddr 0 (.t 1), [11], (some (14, true))⟩,
 ⟨(some 16), .faddr 0 (.t 15), [12, 11], (some (14, true))⟩,
 ⟨(some 17), .load false 1 (.t 16), [13, 11], (some (14, true))⟩,
 ⟨(some 18), .faddr 0 (.t 1), [11], (some (14, true))⟩,
 ⟨(some 19), .faddr 1 (.t 18), [15, 11], (some (14, true))⟩,
 ⟨(some 20), .load false 1 (.t 19), [16, 11], (some (14, true))⟩,
 ⟨(some 21), .faddr 0 (.t 1), [11], (some (14, true))⟩,
 ⟨(some 22), .faddr 2 (.t 21), [18, 11], (some (14, true))⟩,
 ⟨(some 23), .load false 1 (.t 22), [19, 11], (some (14, true))⟩,
 ⟨(some 24), .bslice 1 [(.t 17), (.t 20), (.t 23)], [14, 17, 20, 11], (some (14, true))⟩,
 ⟨(some 25), .call 84 [(.t 24)], [21, 11, 11], (some (14, true))⟩,
 ⟨(some 26), .bin .eql (.t 25) (.k false [.v (.int .i64 1)]), [22, 11], (some (14, true))⟩,
 ⟨(some 27), .pick (.t 14) (.t 26) (.k false [.v (.bool false)]), [11, 23], none⟩,
 ⟨(some 28), .mv (.t 27), [24, 22], none⟩,
 ⟨(some 29), .faddr 3 (.t 1), [25], (some (28, true))⟩,
 ⟨(some 30), .load false 1 (.t 29), [26, 25], (some (28, true))⟩,
 ⟨(some 31), .bslice 1 [(.t 30)], [27, 25], (some (28, true))⟩,
 ⟨(some 32), .call 69 [(.k false [.v (.int .i64 2097152)]), (.t 31)], [28, 25, 25], (some (28, true))⟩,
 ⟨(some 33), .pick (.t 28) (.t 32) (.k false [.v (.bool false)]), [25, 29], none⟩,
 ⟨(some 2), .mv (.t 33), [30, 29, 0, 1, 2, 3, 4, 5, 6, 7, 8, 9, 10, 11, 12, 13, 14, 15, 16, 17, 18, 19, 20, 21, 22, 23, 24, 25, 26, 27, 28, 29, 30], none⟩])
 (.ret))
theorem A40_comp : Tryz.f40.body.bind (comp Tryz.prog Tryz.f40.ntmps []) = some A40 := by kernel_rfl
/- collet/plane.Prim -/
def A41 : ACode :=
 .seq
 (.reg false [⟨(some 1), .box (.t 0), [], none⟩,
 ⟨(some 2), .alloc [.v (.int .i64 0), .v (.int .i64 0), .v (.int .i64 0)], [], none⟩,
 ⟨(some 3), .mv (.k false [.v (.int .i64 0)]), [], none⟩])
 (.seq
 (.reg false [⟨(some 5), .faddr 0 (.t 1), [], none⟩,
 ⟨(some 6), .load false 1 (.t 5), [0], none⟩,
 ⟨(some 7), .faddr 1 (.t 1), [], none⟩,
 ⟨(some 8), .load false 1 (.t 7), [2], none⟩,
 ⟨(some 9), .faddr 2 (.t 1), [], none⟩,
 ⟨(some 10), .load false 1 (.t 9), [4], none⟩,
 ⟨(some 11), .bslice 1 [(.t 6), (.t 8), (.t 10)], [1, 3, 5], none⟩,
 ⟨(some 12), .call 84 [(.t 11)], [6], none⟩,
 ⟨(some 4), .mv (.t 12), [7, 7, 0, 1, 2, 3, 4, 5, 6, 7], none⟩])
 (.seq
 (.seq
 (.reg false [⟨(some 13), .mv (.t 4), [], none⟩,
 ⟨(some 14), .bin .eql (.t 13) (.k false [.v (.int .i64 0)]), [0], none⟩])
 (.cond (.t 14)
 (.seq
 (.reg false [⟨(some 15), .build [.v (.int .i64 0), .v (.int .i64 0), .v (.int .i64 0)] [], [], none⟩,
 ⟨none, .store 3 (.t 2) (.t 15), [0, 0], none⟩,
 ⟨(some 3), .mv (.k false [.v (.int .i64 0)]), [1, 0, 1], none⟩])
 (.ret))
 (.skip)))
 (.seq
 (.reg true [⟨(some 16), .faddr 0 (.t 1), [], none⟩,
 ⟨(some 17), .load false 1 (.t 16), [0], none⟩,
 ⟨(some 18), .mv (.t 4), [], none⟩,
 ⟨(some 19), .bin .quo (.t 17) (.t 18), [1, 2], none⟩,
 ⟨(some 20), .faddr 1 (.t 1), [], none⟩,
 ⟨(some 21), .load false 1 (.t 20), [4], none⟩,
 ⟨(some 22), .mv (.t 4), [], none⟩,
 ⟨(some 23), .bin .quo (.t 21) (.t 22), [5, 6], none⟩,
 ⟨(some 24), .faddr 2 (.t 1), [], none⟩,
 ⟨(some 25), .load false 1 (.t 24), [8], none⟩,
 ⟨(some 26), .mv (.t 4), [], none⟩,
 ⟨(some 27), .bin .quo (.t 25) (.t 26), [9, 10], none⟩,
 ⟨(some 28), .build [.v (.int .i64 0), .v (.int .i64 0), .v (.int .i64 0)] [(0, 1, (.t 19)), (1, 1, (.t 23)), (2, 1, (.t 27))], [3, 7, 11], none⟩,
 ⟨(some 29), .mv (.t 4), [], none⟩,
 ⟨none, .store 3 (.t 2) (.t 28), [12, 0, 1, 2, 3, 4, 5, 6, 7, 8, 9, 10, 11, 12], none⟩,
 ⟨(some 3), .mv (.t 29), [13, 14, 0, 1, 2, 3, 4, 5, 6, 7, 8, 9, 10, 11, 12, 13, 14], none⟩])
 (.ret))))
theorem A41_comp : Tryz.f41.body.bind (comp Tryz.prog Tryz.f41.ntmps []) = some A41 := by kernel_rfl
/- collet/hull.Extreme$1 -/
def A42 : ACode :=
 .seq
 (.reg false [⟨(some 2), .box (.t 0), [], none⟩,
 ⟨(some 3), .mv (.k false [.v (.bool false)]), [], none⟩])
 (.seq
 (.reg false [⟨(some 4), .mv (.k false [.v (.slice none 0 0)]), [], none⟩])
 (.seq
 (.seq
 (.reg false [⟨(some 7), .load false 1 (.t 1), [], none⟩,
 ⟨(some 8), .len (.t 7), [0], none⟩,
 ⟨(some 9), .mv (.k false [.v (.int .i64 0)]), [], none⟩])
 (.block 0 (.loop (.seq
 (.reg false [⟨(some 10), .bin .lss (.t 9) (.t 8), [], none⟩])
 (.seq
 (.cond (.t 10)
 (.skip)
 (.exit 0))
 (.seq
 (.block 1 (.seq
 (.reg false [⟨(some 11), .ixsl 4 (.t 7) (.t 9), [], none⟩,
 ⟨(some 12), .load true 4 (.t 11), [0], none⟩,
 ⟨(some 6), .alloc [.v (.int .i64 0), .v (.int .i64 0), .v (.int .i64 0), .v (.int .i64 0)], [], none⟩,
 ⟨none, .store 4 (.t 6) (.t 12), [2, 1, 0, 1, 2], none⟩])
 (.seq
 (.reg false [⟨(some 13), .load true 4 (.t 6), [], none⟩,
 ⟨(some 14), .load true 3 (.t 2), [], none⟩,
 ⟨(some 15), .call 43 [(.t 13), (.t 14)], [0, 1], none⟩,
 ⟨(some 16), .bin .eql (.t 15) (.k false [.v (.int .i64 0)]), [2], none⟩])
 (.cond (.t 16)
 (.reg false [⟨(some 17), .mv (.t 4), [], none⟩,
 ⟨(some 18), .load true 4 (.t 6), [], none⟩,
 ⟨(some 19), .bslice 4 [(.t 18)], [1], none⟩,
 ⟨(some 20), .app 4 32 (.t 17) (.t 19), [0, 2], none⟩,
 ⟨(some 4), .mv (.t 20), [3, 3, 0, 1, 2, 3], none⟩])
 (.skip)))))
 (.reg false [⟨(some 21), .bin .add (.t 9) (.k false [.v (.int .i64 1)]), [], none⟩,
 ⟨(some 9), .mv (.t 21), [0], none⟩])))))))
 (.seq
 (.reg false [⟨(some 22), .mv (.t 4), [], none⟩,
 ⟨(some 23), .call 44 [(.t 22)], [0], none⟩,
 ⟨(some 24), .un .not (.t 23), [1], none⟩,
 ⟨(some 3), .mv (.t 24), [2, 1, 0, 1, 2], none⟩])
 (.ret))))
theorem A42_comp : Tryz.f42.body.bind (comp Tryz.prog Tryz.f42.ntmps []) = some A42 := by kernel_rfl
/- collet/plane.Side -/
def A43 : ACode :=
 .seq
 (.reg false [⟨(some 2), .box (.t 0), [], none⟩,
 ⟨(some 3), .box (.t 1), [], none⟩,
 ⟨(some 4), .mv (.k false [.v (.int .i64 0)]), [], none⟩])
 (.seq
 (.seq
 (.reg false [⟨(some 5), .load true 4 (.t 2), [], none⟩,
 ⟨(some 6), .call 40 [(.t 5)], [0], none⟩,
 ⟨(some 7), .un .not (.t 6), [1], none⟩,
 ⟨(some 8), .mv (.t 7), [2, 1], none⟩,
 ⟨(some 9), .load true 3 (.t 3), [3], (some (8, false))⟩,
 ⟨(some 10), .call 30 [(.t 9)], [4, 3, 3], (some (8, false))⟩,
 ⟨(some 11), .un .not (.t 10), [5, 3], (some (8, false))⟩,
 ⟨(some 12), .pick (.t 8) (.k false [.v (.bool true)]) (.t 11), [3, 6], none⟩])
 (.cond (.t 12)
 (.seq
 (.reg false [⟨(some 4), .mv (.k false [.v (.int .i64 0)]), [], none⟩])
 (.ret))
 (.skip)))
 (.seq
 (.reg true [⟨(some 13), .faddr 0 (.t 2), [], none⟩,
 ⟨(some 14), .load true 3 (.t 13), [0], none⟩,
 ⟨(some 15), .load true 3 (.t 3), [], none⟩,
 ⟨(some 16), .call 10 [(.t 14), (.t 15)], [1, 2], none⟩,
 ⟨(some 17), .faddr 3 (.t 2), [], none⟩,
 ⟨(some 18), .load false 1 (.t 17), [4], none⟩,
 ⟨(some 19), .call 83 [(.t 16), (.t 18)], [3, 5, 3], none⟩,
 ⟨(some 4), .mv (.t 19), [6, 6, 0, 1, 2, 3, 4, 5, 6], none⟩])
 (.ret)))
theorem A43_comp : Tryz.f43.body.bind (comp Tryz.prog Tryz.f43.ntmps []) = some A43 := by kernel_rfl
/- collet/hull.vertex -/
def A44 : ACode :=
 .seq
 (.reg false [⟨(some 2), .mv (.k false [.v (.bool false)]), [], none⟩])
 (.seq
 (.seq
 (.reg false [⟨(some 8), .mv (.t 0), [], none⟩,
 ⟨(some 9), .len (.t 8), [0], none⟩,
 ⟨(some 10), .mv (.k false [.v (.int .i64 0)]), [], none⟩])
 (.block 0 (.loop (.seq
 (.reg false [⟨(some 11), .bin .lss (.t 10) (.t 9), [], none⟩])
 (.seq
 (.cond (.t 11)
 (.skip)
 (.exit 0))
 (.seq
 (.block 1 (.seq
 (.reg false [⟨(some 12), .mv (.t 10), [], none⟩,
 ⟨(some 13), .ixsl 4 (.t 8) (.t 10), [], none⟩,
 ⟨(some 14), .load true 4 (.t 13), [1], none⟩,
 ⟨(some 4), .alloc [.v (.int .i64 0), .v (.int .i64 0), .v (.int .i64 0), .v (.int .i64 0)], [], none⟩,
 ⟨(some 3), .mv (.t 12), [0, 0, 1, 2, 3], none⟩,
 ⟨none, .store 4 (.t 4) (.t 14), [3, 2, 4, 0, 1, 2, 3, 4], none⟩])
 (.seq
 (.reg false [⟨(some 15), .mv (.t 0), [], none⟩,
 ⟨(some 16), .mv (.t 3), [], none⟩,
 ⟨(some 17), .slice 4 (.t 15) none (some (.t 16)), [0, 1], none⟩,
 ⟨(some 18), .len (.t 17), [2], none⟩,
 ⟨(some 19), .mv (.k false [.v (.int .i64 0)]), [], none⟩])
 (.block 2 (.loop (.seq
 (.reg false [⟨(some 20), .bin .lss (.t 19) (.t 18), [], none⟩])
 (.seq
 (.cond (.t 20)
 (.skip)
 (.exit 2))
 (.seq
 (.block 3 (.seq
 (.reg false [⟨(some 21), .ixsl 4 (.t 17) (.t 19), [], none⟩,
 ⟨(some 22), .load true 4 (.t 21), [0], none⟩,
 ⟨(some 6), .alloc [.v (.int .i64 0), .v (.int .i64 0), .v (.int .i64 0), .v (.int .i64 0)], [], none⟩,
 ⟨none, .store 4 (.t 6) (.t 22), [2, 1, 0, 1, 2], none⟩])
 (.seq
 (.reg false [⟨(some 23), .faddr 0 (.t 4), [], none⟩,
 ⟨(some 24), .load true 3 (.t 23), [0], none⟩,
 ⟨(some 25), .faddr 0 (.t 6), [], none⟩,
 ⟨(some 26), .load true 3 (.t 25), [2], none⟩,
 ⟨(some 27), .call 53 [(.t 24), (.t 26)], [1, 3], none⟩,
 ⟨(some 7), .alloc [.v (.int .i64 0), .v (.int .i64 0), .v (.int .i64 0)], [], none⟩,
 ⟨none, .store 3 (.t 7) (.t 27), [5, 4, 4, 0, 1, 2, 3, 4, 5], none⟩])
 (.seq
 (.frz [] (.reg false [⟨(some 28), .load true 3 (.t 7), [], none⟩,
 ⟨(some 29), .build [.v (.int .i64 0), .v (.int .i64 0), .v (.int .i64 0)] [], [], none⟩,
 ⟨(some 30), .eqa true [some .i64, some .i64, some .i64] (.t 28) (.t 29), [0, 1], none⟩,
 ⟨(some 31), .mv (.t 30), [2], none⟩,
 ⟨(some 32), .mv (.t 0), [3], (some (31, true))⟩,
 ⟨(some 33), .mkfn 86 [] [(.t 7)], [3], (some (31, true))⟩,
 ⟨(some 34), .call 85 [(.t 32), (.t 33)], [4, 5, 3, 3], (some (31, true))⟩,
 ⟨(some 35), .pick (.t 31) (.t 34) (.k false [.v (.bool false)]), [3, 6], none⟩]))
 (.cond (.t 35)
 (.seq
 (.reg false [⟨(some 2), .mv (.k false [.v (.bool true)]), [], none⟩])
 (.ret))
 (.skip))))))
 (.reg false [⟨(some 36), .bin .add (.t 19) (.k false [.v (.int .i64 1)]), [], none⟩,
 ⟨(some 19), .mv (.t 36), [0], none⟩])))))))))
 (.reg false [⟨(some 37), .bin .add (.t 10) (.k false [.v (.int .i64 1)]), [], none⟩,
 ⟨(some 10), .mv (.t 37), [0], none⟩])))))))
 (.seq
 (.reg false [⟨(some 2), .mv (.k false [.v (.bool false)]), [], none⟩])
 (.ret)))
theorem A44_comp : Tryz.f44.body.bind (comp Tryz.prog Tryz.f44.ntmps [8]) = some A44 := by kernel_rfl
/- collet/plane.Cross -/
def A53 : ACode :=
 .seq
 (.reg false [⟨(some 2), .box (.t 0), [], none⟩,
 ⟨(some 3), .box (.t 1), [], none⟩,
 ⟨(some 4), .alloc [.v (.int .i64 0), .v (.int .i64 0), .v (.int .i64 0)], [], none⟩])
 (.seq
 (.reg false [⟨(some 5), .faddr 1 (.t 2), [], none⟩,
 ⟨(some 6), .load false 1 (.t 5), [0], none⟩,
 ⟨(some 7), .faddr 2 (.t 3), [], none⟩,
 ⟨(some 8), .load false 1 (.t 7), [2], none⟩,
 ⟨(some 9), .bin .mul (.t 6) (.t 8), [1, 3], none⟩,
 ⟨(some 10), .faddr 2 (.t 2), [], none⟩,
 ⟨(some 11), .load false 1 (.t 10), [5], none⟩,
 ⟨(some 12), .faddr 1 (.t 3), [], none⟩,
 ⟨(some 13), .load false 1 (.t 12), [7], none⟩,
 ⟨(some 14), .bin .mul (.t 11) (.t 13), [6, 8], none⟩,
 ⟨(some 15), .bin .sub (.t 9) (.t 14), [4, 9], none⟩,
 ⟨(some 16), .faddr 2 (.t 2), [], none⟩,
 ⟨(some 17), .load false 1 (.t 16), [11], none⟩,
 ⟨(some 18), .faddr 0 (.t 3), [], none⟩,
 ⟨(some 19), .load false 1 (.t 18), [13], none⟩,
 ⟨(some 20), .bin .mul (.t 17) (.t 19), [12, 14], none⟩,
 ⟨(some 21), .faddr 0 (.t 2), [], none⟩,
 ⟨(some 22), .load false 1 (.t 21), [16], none⟩,
 ⟨(some 23), .faddr 2 (.t 3), [], none⟩,
 ⟨(some 24), .load false 1 (.t 23), [18], none⟩,
 ⟨(some 25), .bin .mul (.t 22) (.t 24), [17, 19], none⟩,
 ⟨(some 26), .bin .sub (.t 20) (.t 25), [15, 20], none⟩,
 ⟨(some 27), .faddr 0 (.t 2), [], none⟩,
 ⟨(some 28), .load false 1 (.t 27), [22], none⟩,
 ⟨(some 29), .faddr 1 (.t 3), [], none⟩,
 ⟨(some 30), .load false 1 (.t 29), [24], none⟩,
 ⟨(some 31), .bin .mul (.t 28) (.t 30), [23, 25], none⟩,
 ⟨(some 32), .faddr 1 (.t 2), [], none⟩,
 ⟨(some 33), .load false 1 (.t 32), [27], none⟩,
 ⟨(some 34), .faddr 0 (.t 3), [], none⟩,
 ⟨(some 35), .load false 1 (.t 34), [29], none⟩,
 ⟨(some 36), .bin .mul (.t 33) (.t 35), [28, 30], none⟩,
 ⟨(some 37), .bin .sub (.t 31) (.t 36), [26, 31], none⟩,
 ⟨(some 38), .build [.v (.int .i64 0), .v (.int .i64 0), .v (.int .i64 0)] [(0, 1, (.t 15)), (1, 1, (.t 26)), (2, 1, (.t 37))], [10, 21, 32], none⟩,
 ⟨none, .store 3 (.t 4) (.t 38), [33, 0, 1, 2, 3, 4, 5, 6, 7, 8, 9, 10, 11, 12, 13, 14, 15, 16, 17, 18, 19, 20, 21, 22, 23, 24, 25, 26, 27, 28, 29, 30, 31, 32, 33], none⟩])
 (.ret))
theorem A53_comp : Tryz.f53.body.bind (comp Tryz.prog Tryz.f53.ntmps []) = some A53 := by kernel_rfl
/- collet/plane.within -/
def A69 : ACode :=
 .seq
 (.reg false [⟨(some 4), .mv (.k false [.v (.bool false)]), [], none⟩])
 (.seq
 (.seq
 (.reg false [⟨(some 7), .mv (.t 1), [], none⟩,
 ⟨(some 8), .len (.t 7), [0], none⟩,
 ⟨(some 9), .mv (.k false [.v (.int .i64 0)]), [], none⟩])
 (.block 0 (.loop (.seq
 (.reg false [⟨(some 10), .bin .lss (.t 9) (.t 8), [], none⟩])
 (.seq
 (.cond (.t 10)
 (.skip)
 (.exit 0))
 (.seq
 (.block 1 (.seq
 (.reg false [⟨(some 11), .ixsl 1 (.t 7) (.t 9), [], none⟩,
 ⟨(some 12), .load false 1 (.t 11), [0], none⟩,
 ⟨(some 6), .mv (.t 12), [1, 0, 1], none⟩])
 (.seq
 (.reg false [⟨(some 13), .mv (.t 6), [], none⟩,
 ⟨(some 14), .mv (.t 0), [], none⟩,
 ⟨(some 15), .un .neg (.t 14), [1], none⟩,
 ⟨(some 16), .bin .lss (.t 13) (.t 15), [0, 2], none⟩,
 ⟨(some 17), .mv (.t 16), [3], none⟩,
 ⟨(some 18), .mv (.t 6), [4], (some (17, false))⟩,
 ⟨(some 19), .mv (.t 0), [4], (some (17, false))⟩,
 ⟨(some 20), .bin .gtr (.t 18) (.t 19), [5, 6, 4], (some (17, false))⟩,
 ⟨(some 21), .pick (.t 17) (.k false [.v (.bool true)]) (.t 20), [4, 7], none⟩])
 (.cond (.t 21)
 (.seq
 (.reg false [⟨(some 4), .mv (.k false [.v (.bool false)]), [], none⟩])
 (.ret))
 (.skip)))))
 (.reg false [⟨(some 22), .bin .add (.t 9) (.k false [.v (.int .i64 1)]), [], none⟩,
 ⟨(some 9), .mv (.t 22), [0], none⟩])))))))
 (.seq
 (.reg false [⟨(some 4), .mv (.k false [.v (.bool true)]), [], none⟩])
 (.ret)))
theorem A69_comp : Tryz.f69.body.bind (comp Tryz.prog Tryz.f69.ntmps []) = some A69 := by kernel_rfl
/- collet/hull.Check$1 -/
def A70 : ACode :=
 .seq
 (.reg false [⟨(some 1), .box (.t 0), [], none⟩,
 ⟨(some 2), .mv (.k false [.v (.bool false)]), [], none⟩])
 (.seq
 (.reg false [⟨(some 3), .load true 3 (.t 1), [], none⟩,
 ⟨(some 4), .call 30 [(.t 3)], [0], none⟩,
 ⟨(some 5), .un .not (.t 4), [1], none⟩,
 ⟨(some 2), .mv (.t 5), [2, 1, 0, 1, 2], none⟩])
 (.ret))
theorem A70_comp : Tryz.f70.body.bind (comp Tryz.prog Tryz.f70.ntmps []) = some A70 := by kernel_rfl
/- slices.ContainsFunc[[]collet/api.Vec,collet/api.Vec] -/
def A71 : ACode :=
 .seq
 (.reg false [⟨(some 4), .mv (.k false [.v (.bool false)]), [], none⟩])
 (.seq
 (.reg false [⟨(some 5), .mv (.t 0), [], none⟩,
 ⟨(some 6), .mv (.t 1), [], none⟩,
 ⟨(some 7), .call 87 [(.t 5), (.t 6)], [0, 1], none⟩,
 ⟨(some 8), .bin .geq (.t 7) (.k false [.v (.int .i64 0)]), [2], none⟩,
 ⟨(some 4), .mv (.t 8), [3, 2, 0, 1, 2, 3], none⟩])
 (.ret))
theorem A71_comp : Tryz.f71.body.bind (comp Tryz.prog Tryz.f71.ntmps []) = some A71 := by kernel_rfl
/- collet/hull.compare -/
def A75 : ACode :=
 .seq
 (.reg false [⟨(some 2), .box (.t 0), [], none⟩,
 ⟨(some 3), .box (.t 1), [], none⟩,
 ⟨(some 4), .mv (.k false [.v (.int .i64 0)]), [], none⟩])
 (.seq
 (.reg true [⟨(some 5), .faddr 0 (.t 2), [], none⟩,
 ⟨(some 6), .load false 1 (.t 5), [0], none⟩,
 ⟨(some 7), .faddr 0 (.t 3), [], none⟩,
 ⟨(some 8), .load false 1 (.t 7), [2], none⟩,
 ⟨(some 9), .call 100 [(.t 6), (.t 8)], [1, 3], none⟩,
 ⟨(some 10), .faddr 1 (.t 2), [], none⟩,
 ⟨(some 11), .load false 1 (.t 10), [5], none⟩,
 ⟨(some 12), .faddr 1 (.t 3), [], none⟩,
 ⟨(some 13), .load false 1 (.t 12), [7], none⟩,
 ⟨(some 14), .call 100 [(.t 11), (.t 13)], [6, 8, 4], none⟩,
 ⟨(some 15), .faddr 2 (.t 2), [], none⟩,
 ⟨(some 16), .load false 1 (.t 15), [10], none⟩,
 ⟨(some 17), .faddr 2 (.t 3), [], none⟩,
 ⟨(some 18), .load false 1 (.t 17), [12], none⟩,
 ⟨(some 19), .call 100 [(.t 16), (.t 18)], [11, 13, 9], none⟩,
 ⟨(some 20), .bslice 1 [(.t 9), (.t 14), (.t 19)], [4, 9, 14], none⟩,
 ⟨(some 21), .call 99 [(.t 20)], [15, 14], none⟩,
 ⟨(some 4), .mv (.t 21), [16, 16, 0, 1, 2, 3, 4, 5, 6, 7, 8, 9, 10, 11, 12, 13, 14, 15, 16], none⟩])
 (.ret))
theorem A75_comp : Tryz.f75.body.bind (comp Tryz.prog Tryz.f75.ntmps []) = some A75 := by kernel_rfl
/- collet/hull.triples$1 -/
def A77 : ACode :=
 .seq
 (.reg false [⟨(some 8), .load false 1 (.t 1), [], none⟩,
 ⟨(some 9), .len (.t 8), [0], none⟩,
 ⟨(some 10), .mv (.k false [.v (.int .i64 0)]), [], none⟩])
 (.block 0 (.loop (.seq
 (.reg false [⟨(some 11), .bin .lss (.t 10) (.t 9), [], none⟩])
 (.seq
 (.cond (.t 11)
 (.skip)
 (.exit 0))
 (.seq
 (.block 1 (.seq
 (.reg false [⟨(some 12), .mv (.t 10), [], none⟩,
 ⟨(some 3), .mv (.t 12), [0, 0], none⟩])
 (.seq
 (.reg false [⟨(some 13), .load false 1 (.t 1), [], none⟩,
 ⟨(some 14), .mv (.t 3), [], none⟩,
 ⟨(some 15), .slice 3 (.t 13) none (some (.t 14)), [0, 1], none⟩,
 ⟨(some 16), .len (.t 15), [2], none⟩,
 ⟨(some 17), .mv (.k false [.v (.int .i64 0)]), [], none⟩])
 (.block 2 (.loop (.seq
 (.reg false [⟨(some 18), .bin .lss (.t 17) (.t 16), [], none⟩])
 (.seq
 (.cond (.t 18)
 (.skip)
 (.exit 2))
 (.seq
 (.block 3 (.seq
 (.reg false [⟨(some 19), .mv (.t 17), [], none⟩,
 ⟨(some 4), .mv (.t 19), [0, 0], none⟩])
 (.seq
 (.reg false [⟨(some 20), .load false 1 (.t 1), [], none⟩,
 ⟨(some 21), .mv (.t 4), [], none⟩,
 ⟨(some 22), .slice 3 (.t 20) none (some (.t 21)), [0, 1], none⟩,
 ⟨(some 23), .len (.t 22), [2], none⟩,
 ⟨(some 24), .mv (.k false [.v (.int .i64 0)]), [], none⟩])
 (.block 4 (.loop (.seq
 (.reg false [⟨(some 25), .bin .lss (.t 24) (.t 23), [], none⟩])
 (.seq
 (.cond (.t 25)
 (.skip)
 (.exit 4))
 (.seq
 (.block 5 (.seq
 (.reg false [⟨(some 26), .mv (.t 24), [], none⟩,
 ⟨(some 5), .mv (.t 26), [0, 0], none⟩])
 (.seq
 (.reg true [⟨(some 28), .load false 1 (.t 1), [], none⟩,
 ⟨(some 29), .mv (.t 5), [], none⟩,
 ⟨(some 30), .ixsl 3 (.t 28) (.t 29), [0, 1], none⟩,
 ⟨(some 31), .load true 3 (.t 30), [2], none⟩,
 ⟨(some 32), .load false 1 (.t 1), [], none⟩,
 ⟨(some 33), .mv (.t 4), [], none⟩,
 ⟨(some 34), .ixsl 3 (.t 32) (.t 33), [4, 5], none⟩,
 ⟨(some 35), .load true 3 (.t 34), [6], none⟩,
 ⟨(some 36), .load false 1 (.t 1), [], none⟩,
 ⟨(some 37), .mv (.t 3), [], none⟩,
 ⟨(some 38), .ixsl 3 (.t 36) (.t 37), [8, 9], none⟩,
 ⟨(some 39), .load true 3 (.t 38), [10], none⟩,
 ⟨(some 40), .call 78 [(.t 31), (.t 35), (.t 39)], [3, 7, 11], none⟩,
 ⟨(some 27), .mv (.t 40), [12], none⟩,
 ⟨(some 41), .ext (.t 27) 0, [13], none⟩,
 ⟨(some 42), .ext (.t 27) 1, [13], none⟩,
 ⟨(some 6), .alloc [.v (.int .i64 0), .v (.int .i64 0), .v (.int .i64 0), .v (.int .i64 0)], [], none⟩,
 ⟨none, .store 4 (.t 6) (.t 41), [16, 14, 12, 0, 1, 2, 3, 4, 5, 6, 7, 8, 9, 10, 11, 12, 13, 14, 16], none⟩,
 ⟨(some 7), .mv (.t 42), [15, 17, 0, 1, 2, 3, 4, 5, 6, 7, 8, 9, 10, 11, 12, 13, 14, 15, 16, 17], none⟩])
 (.seq
 (.reg false [⟨(some 43), .mv (.t 7), [], none⟩,
 ⟨(some 44), .mv (.t 43), [0], none⟩,
 ⟨(some 45), .mv (.t 0), [1], (some (44, true))⟩,
 ⟨(some 46), .load true 4 (.t 6), [1], (some (44, true))⟩,
 ⟨(some 47), .dyn (.t 45) [(.t 46)], [2, 3, 1, 1], (some (44, true))⟩,
 ⟨(some 48), .un .not (.t 47), [4, 1], (some (44, true))⟩,
 ⟨(some 49), .mv (.t 48), [5, 4, 1], (some (44, true))⟩,
 ⟨(some 50), .mv (.t 0), [6], (some (49, false))⟩,
 ⟨(some 51), .load true 4 (.t 6), [6], (some (49, false))⟩,
 ⟨(some 52), .call 79 [(.t 51)], [8, 6, 6], (some (49, false))⟩,
 ⟨(some 53), .dyn (.t 50) [(.t 52)], [7, 9, 9, 6], (some (49, false))⟩,
 ⟨(some 54), .un .not (.t 53), [10, 6], (some (49, false))⟩,
 ⟨(some 55), .pick (.t 49) (.k false [.v (.bool true)]) (.t 54), [6, 11, 1], (some (44, true))⟩,
 ⟨(some 56), .pick (.t 44) (.t 55) (.k false [.v (.bool false)]), [1, 12], none⟩])
 (.cond (.t 56)
 (.ret)
 (.skip))))))
 (.reg false [⟨(some 57), .bin .add (.t 24) (.k false [.v (.int .i64 1)]), [], none⟩,
 ⟨(some 24), .mv (.t 57), [0], none⟩])))))))))
 (.reg false [⟨(some 58), .bin .add (.t 17) (.k false [.v (.int .i64 1)]), [], none⟩,
 ⟨(some 17), .mv (.t 58), [0], none⟩])))))))))
 (.reg false [⟨(some 59), .bin .add (.t 10) (.k false [.v (.int .i64 1)]), [], none⟩,
 ⟨(some 10), .mv (.t 59), [0], none⟩]))))))
theorem A77_comp : Tryz.f77.body.bind (comp Tryz.prog Tryz.f77.ntmps []) = some A77 := by kernel_rfl
/- collet/plane.Through -/
def A78 : ACode :=
 .seq
 (.reg false [⟨(some 3), .box (.t 0), [], none⟩,
 ⟨(some 4), .box (.t 1), [], none⟩,
 ⟨(some 5), .box (.t 2), [], none⟩,
 ⟨(some 6), .alloc [.v (.int .i64 0), .v (.int .i64 0), .v (.int .i64 0), .v (.int .i64 0)], [], none⟩,
 ⟨(some 7), .mv (.k false [.v (.bool false)]), [], none⟩])
 (.seq
 (.seq
 (.reg false [⟨(some 10), .load true 3 (.t 3), [], none⟩,
 ⟨(some 11), .call 30 [(.t 10)], [0], none⟩,
 ⟨(some 12), .un .not (.t 11), [1], none⟩,
 ⟨(some 13), .mv (.t 12), [2, 1], none⟩,
 ⟨(some 14), .load true 3 (.t 4), [3], (some (13, false))⟩,
 ⟨(some 15), .call 30 [(.t 14)], [4, 3, 3], (some (13, false))⟩,
 ⟨(some 16), .un .not (.t 15), [5, 3], (some (13, false))⟩,
 ⟨(some 17), .pick (.t 13) (.k false [.v (.bool true)]) (.t 16), [3, 6], none⟩,
 ⟨(some 18), .mv (.t 17), [7, 5], none⟩,
 ⟨(some 19), .load true 3 (.t 5), [8], (some (18, false))⟩,
 ⟨(some 20), .call 30 [(.t 19)], [9, 8, 8], (some (18, false))⟩,
 ⟨(some 21), .un .not (.t 20), [10, 8], (some (18, false))⟩,
 ⟨(some 22), .pick (.t 18) (.k false [.v (.bool true)]) (.t 21), [8, 11], none⟩])
 (.cond (.t 22)
 (.seq
 (.reg false [⟨(some 23), .build [.v (.int .i64 0), .v (.int .i64 0), .v (.int .i64 0), .v (.int .i64 0)] [], [], none⟩,
 ⟨none, .store 4 (.t 6) (.t 23), [0, 0], none⟩,
 ⟨(some 7), .mv (.k false [.v (.bool false)]), [1, 0, 1], none⟩])
 (.ret))
 (.skip)))
 (.seq
 (.reg true [⟨(some 25), .load true 3 (.t 4), [], none⟩,
 ⟨(some 26), .load true 3 (.t 3), [], none⟩,
 ⟨(some 27), .call 9 [(.t 25), (.t 26)], [0, 1], none⟩,
 ⟨(some 28), .load true 3 (.t 5), [], none⟩,
 ⟨(some 29), .load true 3 (.t 3), [], none⟩,
 ⟨(some 30), .call 9 [(.t 28), (.t 29)], [3, 4, 2], none⟩,
 ⟨(some 31), .call 53 [(.t 27), (.t 30)], [2, 5, 5], none⟩,
 ⟨(some 32), .call 41 [(.t 31)], [6, 6], none⟩,
 ⟨(some 24), .mv (.t 32), [7], none⟩,
 ⟨(some 33), .ext (.t 24) 0, [8], none⟩,
 ⟨(some 34), .ext (.t 24) 1, [8], none⟩,
 ⟨(some 8), .alloc [.v (.int .i64 0), .v (.int .i64 0), .v (.int .i64 0)], [], none⟩,
 ⟨none, .store 3 (.t 8) (.t 33), [11, 9, 7, 0, 1, 2, 3, 4, 5, 6, 7, 8, 9, 11], none⟩,
 ⟨(some 9), .mv (.t 34), [10, 12, 0, 1, 2, 3, 4, 5, 6, 7, 8, 9, 10, 11, 12], none⟩])
 (.seq
 (.reg true [⟨(some 35), .load true 3 (.t 8), [], none⟩,
 ⟨(some 36), .load true 3 (.t 8), [], none⟩,
 ⟨(some 37), .load true 3 (.t 3), [], none⟩,
 ⟨(some 38), .call 10 [(.t 36), (.t 37)], [1, 2], none⟩,
 ⟨(some 39), .build [.v (.int .i64 0), .v (.int .i64 0), .v (.int .i64 0), .v (.int .i64 0)] [(0, 3, (.t 35)), (3, 1, (.t 38))], [0, 3], none⟩,
 ⟨(some 40), .mv (.t 9), [], none⟩,
 ⟨(some 41), .bin .gtr (.t 40) (.k false [.v (.int .i64 0)]), [5], none⟩,
 ⟨none, .store 4 (.t 6) (.t 39), [4, 3, 0, 1, 2, 3, 4], none⟩,
 ⟨(some 7), .mv (.t 41), [6, 7, 0, 1, 2, 3, 4, 5, 6, 7], none⟩])
 (.ret))))
theorem A78_comp : Tryz.f78.body.bind (comp Tryz.prog Tryz.f78.ntmps []) = some A78 := by kernel_rfl
/- collet/plane.Flip -/
def A79 : ACode :=
 .seq
 (.reg false [⟨(some 1), .box (.t 0), [], none⟩,
 ⟨(some 2), .alloc [.v (.int .i64 0), .v (.int .i64 0), .v (.int .i64 0), .v (.int .i64 0)], [], none⟩])
 (.seq
 (.reg true [⟨(some 3), .build [.v (.int .i64 0), .v (.int .i64 0), .v (.int .i64 0)] [], [], none⟩,
 ⟨(some 4), .faddr 0 (.t 1), [], none⟩,
 ⟨(some 5), .load true 3 (.t 4), [1], none⟩,
 ⟨(some 6), .call 9 [(.t 3), (.t 5)], [0, 2], none⟩,
 ⟨(some 7), .faddr 3 (.t 1), [], none⟩,
 ⟨(some 8), .load false 1 (.t 7), [4], none⟩,
 ⟨(some 9), .un .neg (.t 8), [5], none⟩,
 ⟨(some 10), .build [.v (.int .i64 0), .v (.int .i64 0), .v (.int .i64 0), .v (.int .i64 0)] [(0, 3, (.t 6)), (3, 1, (.t 9))], [3, 6], none⟩,
 ⟨none, .store 4 (.t 2) (.t 10), [7, 3, 0, 1, 2, 3, 4, 5, 6, 7], none⟩])
 (.ret))
theorem A79_comp : Tryz.f79.body.bind (comp Tryz.prog Tryz.f79.ntmps []) = some A79 := by kernel_rfl
/- collet/hull.beyond$1 -/
def A80 : ACode :=
 .seq
 (.reg false [⟨(some 2), .box (.t 0), [], none⟩,
 ⟨(some 3), .mv (.k false [.v (.bool false)]), [], none⟩])
 (.seq
 (.reg false [⟨(some 4), .load true 4 (.t 1), [], none⟩,
 ⟨(some 5), .load true 3 (.t 2), [], none⟩,
 ⟨(some 6), .call 43 [(.t 4), (.t 5)], [0, 1], none⟩,
 ⟨(some 7), .bin .gtr (.t 6) (.k false [.v (.int .i64 0)]), [2], none⟩,
 ⟨(some 3), .mv (.t 7), [3, 2, 0, 1, 2, 3], none⟩])
 (.ret))
theorem A80_comp : Tryz.f80.body.bind (comp Tryz.prog Tryz.f80.ntmps []) = some A80 := by kernel_rfl
/- collet/plane.order -/
def A83 : ACode :=
 .seq
 (.reg false [⟨(some 4), .mv (.k false [.v (.int .i64 0)]), [], none⟩])
 (.seq
 (.block 0 (.seq
 (.reg false [⟨(some 6), .mv (.t 0), [], none⟩,
 ⟨(some 7), .mv (.t 1), [], none⟩,
 ⟨(some 8), .bin .lss (.t 6) (.t 7), [0, 1], none⟩,
 ⟨(some 5), .mv (.t 8), [2], none⟩])
 (.cond (.t 5)
 (.seq
 (.reg false [⟨(some 4), .mv (.k false [.v (.int .i64 (-1))]), [], none⟩])
 (.ret))
 (.seq
 (.reg false [⟨(some 10), .mv (.t 0), [], none⟩,
 ⟨(some 11), .mv (.t 1), [], none⟩,
 ⟨(some 12), .bin .gtr (.t 10) (.t 11), [0, 1], none⟩,
 ⟨(some 9), .mv (.t 12), [2], none⟩])
 (.cond (.t 9)
 (.seq
 (.reg false [⟨(some 4), .mv (.k false [.v (.int .i64 1)]), [], none⟩])
 (.ret))
 (.skip))))))
 (.seq
 (.reg false [⟨(some 4), .mv (.k false [.v (.int .i64 0)]), [], none⟩])
 (.ret)))
theorem A83_comp : Tryz.f83.body.bind (comp Tryz.prog Tryz.f83.ntmps []) = some A83 := by kernel_rfl
/- collet/plane.divisor -/
def A84 : ACode :=
 .seq
 (.reg false [⟨(some 2), .mv (.k false [.v (.int .i64 0)]), [], none⟩])
 (.seq
 (.reg false [⟨(some 3), .mv (.k false [.v (.int .i64 0)]), [], none⟩])
 (.seq
 (.seq
 (.reg false [⟨(some 6), .mv (.t 0), [], none⟩,
 ⟨(some 7), .len (.t 6), [0], none⟩,
 ⟨(some 8), .mv (.k false [.v (.int .i64 0)]), [], none⟩])
 (.block 0 (.loop (.seq
 (.reg false [⟨(some 9), .bin .lss (.t 8) (.t 7), [], none⟩])
 (.seq
 (.cond (.t 9)
 (.skip)
 (.exit 0))
 (.seq
 (.block 1 (.seq
 (.reg false [⟨(some 10), .ixsl 1 (.t 6) (.t 8), [], none⟩,
 ⟨(some 11), .load false 1 (.t 10), [0], none⟩,
 ⟨(some 5), .mv (.t 11), [1, 0, 1], none⟩])
 (.seq
 (.seq
 (.reg false [⟨(some 12), .mv (.t 5), [], none⟩,
 ⟨(some 13), .bin .eql (.t 12) (.k false [.v (.int .i64 (-9223372036854775808))]), [0], none⟩])
 (.cond (.t 13)
 (.seq
 (.reg false [⟨(some 2), .mv (.k false [.v (.int .i64 0)]), [], none⟩])
 (.ret))
 (.skip)))
 (.seq
 (.reg false [⟨(some 14), .mv (.t 5), [], none⟩,
 ⟨(some 15), .call 111 [(.t 14)], [0], none⟩,
 ⟨(some 5), .mv (.t 15), [1, 1, 0, 1], none⟩])
 (.block 2 (.loop (.seq
 (.seq
 (.reg false [⟨(some 16), .mv (.t 5), [], none⟩,
 ⟨(some 17), .bin .gtr (.t 16) (.k false [.v (.int .i64 0)]), [0], none⟩])
 (.cond (.t 17)
 (.skip)
 (.exit 2)))
 (.block 3 (.reg true [⟨(some 18), .mv (.t 5), [], none⟩,
 ⟨(some 19), .mv (.t 3), [], none⟩,
 ⟨(some 20), .mv (.t 5), [], none⟩,
 ⟨(some 21), .bin .rem (.t 19) (.t 20), [1, 2], none⟩,
 ⟨(some 3), .mv (.t 18), [0, 0, 1], none⟩,
 ⟨(some 5), .mv (.t 21), [3, 4, 0, 1, 2, 3, 4], none⟩])))))))))
 (.reg false [⟨(some 22), .bin .add (.t 8) (.k false [.v (.int .i64 1)]), [], none⟩,
 ⟨(some 8), .mv (.t 22), [0], none⟩])))))))
 (.seq
 (.reg false [⟨(some 23), .mv (.t 3), [], none⟩,
 ⟨(some 2), .mv (.t 23), [0, 0], none⟩])
 (.ret))))
theorem A84_comp : Tryz.f84.body.bind (comp Tryz.prog Tryz.f84.ntmps []) = some A84 := by kernel_rfl
/- slices.ContainsFunc[[]collet/api.Plane,collet/api.Plane] -/
def A85 : ACode :=
 .seq
 (.reg false [⟨(some 4), .mv (.k false [.v (.bool false)]), [], none⟩])
 (.seq
 (.reg false [⟨(some 5), .mv (.t 0), [], none⟩,
 ⟨(some 6), .mv (.t 1), [], none⟩,
 ⟨(some 7), .call 112 [(.t 5), (.t 6)], [0, 1], none⟩,
 ⟨(some 8), .bin .geq (.t 7) (.k false [.v (.int .i64 0)]), [2], none⟩,
 ⟨(some 4), .mv (.t 8), [3, 2, 0, 1, 2, 3], none⟩])
 (.ret))
theorem A85_comp : Tryz.f85.body.bind (comp Tryz.prog Tryz.f85.ntmps []) = some A85 := by kernel_rfl
/- collet/hull.vertex$1 -/
def A86 : ACode :=
 .seq
 (.reg false [⟨(some 2), .box (.t 0), [], none⟩,
 ⟨(some 3), .mv (.k false [.v (.bool false)]), [], none⟩])
 (.seq
 (.reg false [⟨(some 4), .load true 3 (.t 1), [], none⟩,
 ⟨(some 5), .faddr 0 (.t 2), [], none⟩,
 ⟨(some 6), .load true 3 (.t 5), [1], none⟩,
 ⟨(some 7), .call 10 [(.t 4), (.t 6)], [0, 2], none⟩,
 ⟨(some 8), .bin .neq (.t 7) (.k false [.v (.int .i64 0)]), [3], none⟩,
 ⟨(some 3), .mv (.t 8), [4, 3, 0, 1, 2, 3, 4], none⟩])
 (.ret))
theorem A86_comp : Tryz.f86.body.bind (comp Tryz.prog Tryz.f86.ntmps []) = some A86 := by kernel_rfl
/- slices.IndexFunc[[]collet/api.Vec,collet/api.Vec] -/
def A87 : ACode :=
 .seq
 (.reg false [⟨(some 4), .mv (.k false [.v (.int .i64 0)]), [], none⟩])
 (.seq
 (.seq
 (.reg false [⟨(some 6), .mv (.t 0), [], none⟩,
 ⟨(some 7), .len (.t 6), [0], none⟩,
 ⟨(some 8), .mv (.k false [.v (.int .i64 0)]), [], none⟩])
 (.block 0 (.loop (.seq
 (.reg false [⟨(some 9), .bin .lss (.t 8) (.t 7), [], none⟩])
 (.seq
 (.cond (.t 9)
 (.skip)
 (.exit 0))
 (.seq
 (.block 1 (.seq
 (.reg false [⟨(some 10), .mv (.t 8), [], none⟩,
 ⟨(some 5), .mv (.t 10), [0, 0], none⟩])
 (.seq
 (.reg false [⟨(some 11), .mv (.t 1), [], none⟩,
 ⟨(some 12), .mv (.t 0), [], none⟩,
 ⟨(some 13), .mv (.t 5), [], none⟩,
 ⟨(some 14), .ixsl 3 (.t 12) (.t 13), [1, 2], none⟩,
 ⟨(some 15), .load true 3 (.t 14), [3], none⟩,
 ⟨(some 16), .dyn (.t 11) [(.t 15)], [0, 4], none⟩])
 (.cond (.t 16)
 (.seq
 (.reg false [⟨(some 17), .mv (.t 5), [], none⟩,
 ⟨(some 4), .mv (.t 17), [0, 0], none⟩])
 (.ret))
 (.skip)))))
 (.reg false [⟨(some 18), .bin .add (.t 8) (.k false [.v (.int .i64 1)]), [], none⟩,
 ⟨(some 8), .mv (.t 18), [0], none⟩])))))))
 (.seq
 (.reg false [⟨(some 4), .mv (.k false [.v (.int .i64 (-1))]), [], none⟩])
 (.ret)))
theorem A87_comp : Tryz.f87.body.bind (comp Tryz.prog Tryz.f87.ntmps []) = some A87 := by kernel_rfl
/- collet/hull.flat$1 -/
def A97 : ACode :=
 .seq
 (.reg false [⟨(some 2), .box (.t 0), [], none⟩,
 ⟨(some 3), .mv (.k false [.v (.bool false)]), [], none⟩])
 (.seq
 (.reg false [⟨(some 4), .load true 4 (.t 1), [], none⟩,
 ⟨(some 5), .load true 3 (.t 2), [], none⟩,
 ⟨(some 6), .call 43 [(.t 4), (.t 5)], [0, 1], none⟩,
 ⟨(some 7), .bin .neq (.t 6) (.k false [.v (.int .i64 0)]), [2], none⟩,
 ⟨(some 3), .mv (.t 7), [3, 2, 0, 1, 2, 3], none⟩])
 (.ret))
theorem A97_comp : Tryz.f97.body.bind (comp Tryz.prog Tryz.f97.ntmps []) = some A97 := by kernel_rfl
/- cmp.Or[int] -/
def A99 : ACode :=
 .seq
 (.reg false [⟨(some 2), .mv (.k false [.v (.int .i64 0)]), [], none⟩])
 (.seq
 (.reg false [⟨(some 3), .mv (.k false [.v (.int .i64 0)]), [], none⟩])
 (.seq
 (.seq
 (.reg false [⟨(some 6), .mv (.t 0), [], none⟩,
 ⟨(some 7), .len (.t 6), [0], none⟩,
 ⟨(some 8), .mv (.k false [.v (.int .i64 0)]), [], none⟩])
 (.block 0 (.loop (.seq
 (.reg false [⟨(some 9), .bin .lss (.t 8) (.t 7), [], none⟩])
 (.seq
 (.cond (.t 9)
 (.skip)
 (.exit 0))
 (.seq
 (.block 1 (.seq
 (.reg false [⟨(some 10), .ixsl 1 (.t 6) (.t 8), [], none⟩,
 ⟨(some 11), .load false 1 (.t 10), [0], none⟩,
 ⟨(some 5), .mv (.t 11), [1, 0, 1], none⟩])
 (.seq
 (.reg false [⟨(some 12), .mv (.t 5), [], none⟩,
 ⟨(some 13), .mv (.t 3), [], none⟩,
 ⟨(some 14), .bin .neq (.t 12) (.t 13), [0, 1], none⟩])
 (.cond (.t 14)
 (.seq
 (.reg false [⟨(some 15), .mv (.t 5), [], none⟩,
 ⟨(some 2), .mv (.t 15), [0, 0], none⟩])
 (.ret))
 (.skip)))))
 (.reg false [⟨(some 16), .bin .add (.t 8) (.k false [.v (.int .i64 1)]), [], none⟩,
 ⟨(some 8), .mv (.t 16), [0], none⟩])))))))
 (.seq
 (.reg false [⟨(some 17), .mv (.t 3), [], none⟩,
 ⟨(some 2), .mv (.t 17), [0, 0], none⟩])
 (.ret))))
theorem A99_comp : Tryz.f99.body.bind (comp Tryz.prog Tryz.f99.ntmps []) = some A99 := by kernel_rfl
/- cmp.Compare[int] -/
def A100 : ACode :=
 .seq
 (.reg false [⟨(some 4), .mv (.k false [.v (.int .i64 0)]), [], none⟩])
 (.seq
 (.reg false [⟨(some 7), .mv (.t 0), [], none⟩,
 ⟨(some 8), .call 123 [(.t 7)], [0], none⟩,
 ⟨(some 5), .mv (.t 8), [1, 1, 0, 1], none⟩])
 (.seq
 (.reg false [⟨(some 9), .mv (.t 1), [], none⟩,
 ⟨(some 10), .call 123 [(.t 9)], [0], none⟩,
 ⟨(some 6), .mv (.t 10), [1, 1, 0, 1], none⟩])
 (.seq
 (.seq
 (.reg false [⟨(some 11), .mv (.t 5), [], none⟩])
 (.cond (.t 11)
 (.seq
 (.seq
 (.reg false [⟨(some 12), .mv (.t 6), [], none⟩])
 (.cond (.t 12)
 (.seq
 (.reg false [⟨(some 4), .mv (.k false [.v (.int .i64 0)]), [], none⟩])
 (.ret))
 (.skip)))
 (.seq
 (.reg false [⟨(some 4), .mv (.k false [.v (.int .i64 (-1))]), [], none⟩])
 (.ret)))
 (.skip)))
 (.seq
 (.seq
 (.reg false [⟨(some 13), .mv (.t 6), [], none⟩])
 (.cond (.t 13)
 (.seq
 (.reg false [⟨(some 4), .mv (.k false [.v (.int .i64 1)]), [], none⟩])
 (.ret))
 (.skip)))
 (.seq
 (.seq
 (.reg false [⟨(some 14), .mv (.t 0), [], none⟩,
 ⟨(some 15), .mv (.t 1), [], none⟩,
 ⟨(some 16), .bin .lss (.t 14) (.t 15), [0, 1], none⟩])
 (.cond (.t 16)
 (.seq
 (.reg false [⟨(some 4), .mv (.k false [.v (.int .i64 (-1))]), [], none⟩])
 (.ret))
 (.skip)))
 (.seq
 (.seq
 (.reg false [⟨(some 17), .mv (.t 0), [], none⟩,
 ⟨(some 18), .mv (.t 1), [], none⟩,
 ⟨(some 19), .bin .gtr (.t 17) (.t 18), [0, 1], none⟩])
 (.cond (.t 19)
 (.seq
 (.reg false [⟨(some 4), .mv (.k false [.v (.int .i64 1)]), [], none⟩])
 (.ret))
 (.skip)))
 (.seq
 (.reg false [⟨(some 4), .mv (.k false [.v (.int .i64 0)]), [], none⟩])
 (.ret))))))))
theorem A100_comp : Tryz.f100.body.bind (comp Tryz.prog Tryz.f100.ntmps []) = some A100 := by kernel_rfl
/- collet/plane.absolute -/
def A111 : ACode :=
 .seq
 (.reg false [⟨(some 2), .mv (.k false [.v (.int .i64 0)]), [], none⟩])
 (.seq
 (.reg false [⟨(some 3), .mv (.t 0), [], none⟩,
 ⟨(some 4), .mv (.t 0), [], none⟩,
 ⟨(some 5), .un .neg (.t 4), [1], none⟩,
 ⟨(some 6), .mx [(.t 3), (.t 5)], [0, 2], none⟩,
 ⟨(some 2), .mv (.t 6), [3, 0, 1, 2, 3], none⟩])
 (.ret))
theorem A111_comp : Tryz.f111.body.bind (comp Tryz.prog Tryz.f111.ntmps []) = some A111 := by kernel_rfl
/- slices.IndexFunc[[]collet/api.Plane,collet/api.Plane] -/
def A112 : ACode :=
 .seq
 (.reg false [⟨(some 4), .mv (.k false [.v (.int .i64 0)]), [], none⟩])
 (.seq
 (.seq
 (.reg false [⟨(some 6), .mv (.t 0), [], none⟩,
 ⟨(some 7), .len (.t 6), [0], none⟩,
 ⟨(some 8), .mv (.k false [.v (.int .i64 0)]), [], none⟩])
 (.block 0 (.loop (.seq
 (.reg false [⟨(some 9), .bin .lss (.t 8) (.t 7), [], none⟩])
 (.seq
 (.cond (.t 9)
 (.skip)
 (.exit 0))
 (.seq
 (.block 1 (.seq
 (.reg false [⟨(some 10), .mv (.t 8), [], none⟩,
 ⟨(some 5), .mv (.t 10), [0, 0], none⟩])
 (.seq
 (.reg false [⟨(some 11), .mv (.t 1), [], none⟩,
 ⟨(some 12), .mv (.t 0), [], none⟩,
 ⟨(some 13), .mv (.t 5), [], none⟩,
 ⟨(some 14), .ixsl 4 (.t 12) (.t 13), [1, 2], none⟩,
 ⟨(some 15), .load true 4 (.t 14), [3], none⟩,
 ⟨(some 16), .dyn (.t 11) [(.t 15)], [0, 4], none⟩])
 (.cond (.t 16)
 (.seq
 (.reg false [⟨(some 17), .mv (.t 5), [], none⟩,
 ⟨(some 4), .mv (.t 17), [0, 0], none⟩])
 (.ret))
 (.skip)))))
 (.reg false [⟨(some 18), .bin .add (.t 8) (.k false [.v (.int .i64 1)]), [], none⟩,
 ⟨(some 8), .mv (.t 18), [0], none⟩])))))))
 (.seq
 (.reg false [⟨(some 4), .mv (.k false [.v (.int .i64 (-1))]), [], none⟩])
 (.ret)))
theorem A112_comp : Tryz.f112.body.bind (comp Tryz.prog Tryz.f112.ntmps []) = some A112 := by kernel_rfl
/- cmp.isNaN[int] -/
def A123 : ACode :=
 .seq
 (.reg false [⟨(some 2), .mv (.k false [.v (.bool false)]), [], none⟩])
 (.seq
 (.reg false [⟨(some 3), .mv (.t 0), [], none⟩,
 ⟨(some 4), .mv (.t 0), [], none⟩,
 ⟨(some 5), .bin .neq (.t 3) (.t 4), [0, 1], none⟩,
 ⟨(some 2), .mv (.t 5), [2, 0, 1, 2], none⟩])
 (.ret))
theorem A123_comp : Tryz.f123.body.bind (comp Tryz.prog Tryz.f123.ntmps []) = some A123 := by kernel_rfl
end Go.Proofs.YtlbafapmhjfobaaGreatDoor
namespace Go.Proofs.YtlbafapmhjfobaaGreatDoor
set_option maxRecDepth 100000
/- collet/turn.Apply -/
def A8 : ACode :=
 .seq
 (.reg false [⟨(some 2), .box (.t 0), [], none⟩,
 ⟨(some 3), .box (.t 1), [], none⟩,
 ⟨(some 4), .alloc [.v (.int .i64 0), .v (.int .i64 0), .v (.int .i64 0)], [], none⟩,
 ⟨(some 5), .mv (.k false [.v (.bool false)]), [], none⟩])
 (.seq
 (.seq
 (.reg false [⟨(some 8), .load true 13 (.t 2), [], none⟩,
 ⟨(some 9), .call 29 [(.t 8)], [0], none⟩,
 ⟨(some 10), .un .not (.t 9), [1], none⟩,
 ⟨(some 11), .mv (.t 10), [2, 1], none⟩,
 ⟨(some 12), .load true 3 (.t 3), [3], (some (11, false))⟩,
 ⟨(some 13), .call 30 [(.t 12)], [4, 3, 3], (some (11, false))⟩,
 ⟨(some 14), .un .not (.t 13), [5, 3], (some (11, false))⟩,
 ⟨(some 15), .pick (.t 11) (.k false [.v (.bool true)]) (.t 14), [3, 6], none⟩])
 (.cond (.t 15)
 (.seq
 (.reg false [⟨(some 16), .build [.v (.int .i64 0), .v (.int .i64 0), .v (.int .i64 0)] [], [], none⟩,
 ⟨none, .store 3 (.t 4) (.t 16), [0, 0], none⟩,
 ⟨(some 5), .mv (.k false [.v (.bool false)]), [1, 0, 1], none⟩])
 (.ret))
 (.skip)))
 (.seq
 (.reg true [⟨(some 18), .faddr 0 (.t 2), [], none⟩,
 ⟨(some 19), .faddr 0 (.t 18), [0], none⟩,
 ⟨(some 20), .load true 9 (.t 19), [1], none⟩,
 ⟨(some 21), .load true 3 (.t 3), [], none⟩,
 ⟨(some 22), .call 32 [(.t 20), (.t 21)], [2, 3], none⟩,
 ⟨(some 23), .faddr 0 (.t 2), [], none⟩,
 ⟨(some 24), .faddr 9 (.t 23), [5], none⟩,
 ⟨(some 25), .load false 1 (.t 24), [6], none⟩,
 ⟨(some 26), .call 31 [(.t 22), (.t 25)], [4, 7, 4], none⟩,
 ⟨(some 17), .mv (.t 26), [8], none⟩,
 ⟨(some 27), .ext (.t 17) 0, [9], none⟩,
 ⟨(some 28), .ext (.t 17) 1, [9], none⟩,
 ⟨(some 6), .alloc [.v (.int .i64 0), .v (.int .i64 0), .v (.int .i64 0)], [], none⟩,
 ⟨none, .store 3 (.t 6) (.t 27), [12, 10, 8, 0, 1, 2, 3, 4, 5, 6, 7, 8, 9, 10, 12], none⟩,
 ⟨(some 7), .mv (.t 28), [11, 13, 0, 1, 2, 3, 4, 5, 6, 7, 8, 9, 10, 11, 12, 13], none⟩])
 (.seq
 (.seq
 (.reg false [⟨(some 29), .load true 3 (.t 6), [], none⟩,
 ⟨(some 30), .faddr 10 (.t 2), [], none⟩,
 ⟨(some 31), .load true 3 (.t 30), [1], none⟩,
 ⟨(some 32), .call 33 [(.t 29), (.t 31)], [0, 2], none⟩,
 ⟨none, .store 3 (.t 6) (.t 32), [3, 3, 0, 1, 2, 3], none⟩])
 (.seq
 (.reg false [⟨(some 33), .mv (.t 7), [], none⟩,
 ⟨(some 34), .un .not (.t 33), [0], none⟩,
 ⟨(some 35), .mv (.t 34), [1], none⟩,
 ⟨(some 36), .load true 3 (.t 6), [2], (some (35, false))⟩,
 ⟨(some 37), .call 30 [(.t 36)], [3, 2, 2], (some (35, false))⟩,
 ⟨(some 38), .un .not (.t 37), [4, 2], (some (35, false))⟩,
 ⟨(some 39), .pick (.t 35) (.k false [.v (.bool true)]) (.t 38), [2, 5], none⟩])
 (.cond (.t 39)
 (.seq
 (.reg false [⟨(some 40), .build [.v (.int .i64 0), .v (.int .i64 0), .v (.int .i64 0)] [], [], none⟩,
 ⟨none, .store 3 (.t 4) (.t 40), [0, 0], none⟩,
 ⟨(some 5), .mv (.k false [.v (.bool false)]), [1, 0, 1], none⟩])
 (.ret))
 (.skip))))
 (.seq
 (.reg false [⟨(some 41), .load true 3 (.t 6), [], none⟩,
 ⟨none, .store 3 (.t 4) (.t 41), [0, 0], none⟩,
 ⟨(some 5), .mv (.k false [.v (.bool true)]), [1, 0, 1], none⟩])
 (.ret)))))
theorem A8_comp : Tryz.f8.body.bind (comp Tryz.prog Tryz.f8.ntmps []) = some A8 := by kernel_rfl
/- collet/turn.Plane -/
def A12 : ACode :=
 .seq
 (.reg false [⟨(some 2), .box (.t 0), [], none⟩,
 ⟨(some 3), .box (.t 1), [], none⟩,
 ⟨(some 4), .alloc [.v (.int .i64 0), .v (.int .i64 0), .v (.int .i64 0), .v (.int .i64 0)], [], none⟩,
 ⟨(some 5), .mv (.k false [.v (.bool false)]), [], none⟩])
 (.seq
 (.seq
 (.reg false [⟨(some 10), .load true 13 (.t 2), [], none⟩,
 ⟨(some 11), .call 29 [(.t 10)], [0], none⟩,
 ⟨(some 12), .un .not (.t 11), [1], none⟩,
 ⟨(some 13), .mv (.t 12), [2, 1], none⟩,
 ⟨(some 14), .load true 4 (.t 3), [3], (some (13, false))⟩,
 ⟨(some 15), .call 40 [(.t 14)], [4, 3, 3], (some (13, false))⟩,
 ⟨(some 16), .un .not (.t 15), [5, 3], (some (13, false))⟩,
 ⟨(some 17), .pick (.t 13) (.k false [.v (.bool true)]) (.t 16), [3, 6], none⟩])
 (.cond (.t 17)
 (.seq
 (.reg false [⟨(some 18), .build [.v (.int .i64 0), .v (.int .i64 0), .v (.int .i64 0), .v (.int .i64 0)] [], [], none⟩,
 ⟨none, .store 4 (.t 4) (.t 18), [0, 0], none⟩,
 ⟨(some 5), .mv (.k false [.v (.bool false)]), [1, 0, 1], none⟩])
 (.ret))
 (.skip)))
 (.seq
 (.reg false [⟨(some 20), .faddr 0 (.t 2), [], none⟩,
 ⟨(some 21), .faddr 0 (.t 20), [0], none⟩,
 ⟨(some 22), .load true 9 (.t 21), [1], none⟩,
 ⟨(some 23), .faddr 0 (.t 3), [], none⟩,
 ⟨(some 24), .load true 3 (.t 23), [3], none⟩,
 ⟨(some 25), .call 32 [(.t 22), (.t 24)], [2, 4], none⟩,
 ⟨(some 26), .call 41 [(.t 25)], [5, 5], none⟩,
 ⟨(some 19), .mv (.t 26), [6], none⟩,
 ⟨(some 27), .ext (.t 19) 0, [7], none⟩,
 ⟨(some 28), .ext (.t 19) 1, [7], none⟩,
 ⟨(some 6), .alloc [.v (.int .i64 0), .v (.int .i64 0), .v (.int .i64 0)], [], none⟩,
 ⟨none, .store 3 (.t 6) (.t 27), [10, 8, 6, 0, 1, 2, 3, 4, 5, 6, 7, 8, 10], none⟩,
 ⟨(some 7), .mv (.t 28), [9, 11, 0, 1, 2, 3, 4, 5, 6, 7, 8, 9, 10, 11], none⟩])
 (.seq
 (.reg false [⟨(some 29), .faddr 0 (.t 2), [], none⟩,
 ⟨(some 30), .faddr 9 (.t 29), [0], none⟩,
 ⟨(some 31), .load false 1 (.t 30), [1], none⟩,
 ⟨(some 32), .faddr 3 (.t 3), [], none⟩,
 ⟨(some 33), .load false 1 (.t 32), [3], none⟩,
 ⟨(some 34), .bin .mul (.t 31) (.t 33), [2, 4], none⟩,
 ⟨(some 8), .mv (.t 34), [5, 0, 1, 2, 3, 4, 5], none⟩])
 (.seq
 (.seq
 (.reg false [⟨(some 35), .mv (.t 7), [], none⟩,
 ⟨(some 36), .bin .eql (.t 35) (.k false [.v (.int .i64 0)]), [0], none⟩,
 ⟨(some 37), .mv (.t 36), [1], none⟩,
 ⟨(some 38), .mv (.t 8), [2], (some (37, false))⟩,
 ⟨(some 39), .mv (.t 7), [2], (some (37, false))⟩,
 ⟨(some 40), .bin .rem (.t 38) (.t 39), [3, 4, 2], (some (37, false))⟩,
 ⟨(some 41), .bin .neq (.t 40) (.k false [.v (.int .i64 0)]), [5, 2], (some (37, false))⟩,
 ⟨(some 42), .pick (.t 37) (.k false [.v (.bool true)]) (.t 41), [2, 6], none⟩])
 (.cond (.t 42)
 (.seq
 (.reg false [⟨(some 43), .build [.v (.int .i64 0), .v (.int .i64 0), .v (.int .i64 0), .v (.int .i64 0)] [], [], none⟩,
 ⟨none, .store 4 (.t 4) (.t 43), [0, 0], none⟩,
 ⟨(some 5), .mv (.k false [.v (.bool false)]), [1, 0, 1], none⟩])
 (.ret))
 (.skip)))
 (.seq
 (.reg true [⟨(some 44), .load true 3 (.t 6), [], none⟩,
 ⟨(some 45), .mv (.t 8), [], none⟩,
 ⟨(some 46), .mv (.t 7), [], none⟩,
 ⟨(some 47), .bin .quo (.t 45) (.t 46), [1, 2], none⟩,
 ⟨(some 48), .load true 3 (.t 6), [], none⟩,
 ⟨(some 49), .faddr 10 (.t 2), [], none⟩,
 ⟨(some 50), .load true 3 (.t 49), [5], none⟩,
 ⟨(some 51), .call 10 [(.t 48), (.t 50)], [4, 6], none⟩,
 ⟨(some 52), .bin .add (.t 47) (.t 51), [3, 7], none⟩,
 ⟨(some 53), .build [.v (.int .i64 0), .v (.int .i64 0), .v (.int .i64 0), .v (.int .i64 0)] [(0, 3, (.t 44)), (3, 1, (.t 52))], [0, 8], none⟩,
 ⟨(some 9), .alloc [.v (.int .i64 0), .v (.int .i64 0), .v (.int .i64 0), .v (.int .i64 0)], [], none⟩,
 ⟨none, .store 4 (.t 9) (.t 53), [10, 9, 7, 0, 1, 2, 3, 4, 5, 6, 7, 8, 9, 10], none⟩])
 (.seq
 (.seq
 (.reg false [⟨(some 54), .load true 4 (.t 9), [], none⟩,
 ⟨(some 55), .call 40 [(.t 54)], [0], none⟩,
 ⟨(some 56), .un .not (.t 55), [1], none⟩])
 (.cond (.t 56)
 (.seq
 (.reg false [⟨(some 57), .build [.v (.int .i64 0), .v (.int .i64 0), .v (.int .i64 0), .v (.int .i64 0)] [], [], none⟩,
 ⟨none, .store 4 (.t 4) (.t 57), [0, 0], none⟩,
 ⟨(some 5), .mv (.k false [.v (.bool false)]), [1, 0, 1], none⟩])
 (.ret))
 (.skip)))
 (.seq
 (.reg false [⟨(some 58), .load true 4 (.t 9), [], none⟩,
 ⟨none, .store 4 (.t 4) (.t 58), [0, 0], none⟩,
 ⟨(some 5), .mv (.k false [.v (.bool true)]), [1, 0, 1], none⟩])
 (.ret))))))))
theorem A12_comp : Tryz.f12.body.bind (comp Tryz.prog Tryz.f12.ntmps []) = some A12 := by kernel_rfl
/- collet/hull.Extreme -/
def A13 : ACode :=
 .seq
 (.reg false [⟨(some 2), .mv (.k false [.v (.slice none 0 0)]), [], none⟩,
 ⟨(some 3), .mv (.k false [.v (.int .i64 0)]), [0], none⟩])
 (.seq
 (.reg false [⟨(some 8), .mv (.t 0), [], none⟩,
 ⟨(some 9), .call 11 [(.t 8)], [0], none⟩,
 ⟨(some 7), .mv (.t 9), [1], none⟩,
 ⟨(some 10), .ext (.t 7) 0, [2], none⟩,
 ⟨(some 11), .ext (.t 7) 1, [2], none⟩,
 ⟨(some 4), .alloc [.v (.slice none 0 0)], [], none⟩,
 ⟨none, .store 1 (.t 4) (.t 10), [5, 3, 1, 0, 1, 2, 3, 5], none⟩,
 ⟨(some 5), .mv (.t 11), [4, 6, 0, 1, 2, 3, 4, 5, 6], none⟩])
 (.seq
 (.seq
 (.reg false [⟨(some 12), .mv (.t 5), [], none⟩,
 ⟨(some 13), .bin .neq (.t 12) (.k false [.v (.int .i64 0)]), [0], none⟩])
 (.cond (.t 13)
 (.seq
 (.reg false [⟨(some 14), .mv (.t 5), [], none⟩,
 ⟨(some 2), .mv (.k false [.v (.slice none 0 0)]), [], none⟩,
 ⟨(some 3), .mv (.t 14), [0, 1, 0, 1], none⟩])
 (.ret))
 (.skip)))
 (.seq
 (.frz [] (.reg false [⟨(some 15), .mkfn 42 [] [(.t 4)], [], none⟩,
 ⟨(some 6), .mv (.t 15), [0, 0], none⟩]))
 (.seq
 (.reg false [⟨(some 16), .mv (.t 0), [], none⟩,
 ⟨(some 17), .call 35 [(.t 16)], [0], none⟩,
 ⟨(some 18), .mv (.t 6), [], none⟩,
 ⟨(some 19), .call 45 [(.t 17), (.t 18)], [1, 2, 1], none⟩,
 ⟨(some 2), .mv (.t 19), [3, 3, 0, 1, 2, 3], none⟩,
 ⟨(some 3), .mv (.k false [.v (.int .i64 0)]), [4, 0, 1, 2, 3, 4], none⟩])
 (.ret)))))
theorem A13_comp : Tryz.f13.body.bind (comp Tryz.prog Tryz.f13.ntmps [4]) = some A13 := by kernel_rfl
/- collet/turn.Valid -/
def A17 : ACode :=
 .seq
 (.reg false [⟨(some 1), .box (.t 0), [], none⟩,
 ⟨(some 2), .mv (.k false [.v (.bool false)]), [], none⟩])
 (.seq
 (.reg false [⟨(some 6), .faddr 0 (.t 1), [], none⟩,
 ⟨(some 7), .load true 9 (.t 6), [0], none⟩,
 ⟨(some 3), .alloc (List.replicate 9 (.v (.int .i64 0))), [], none⟩,
 ⟨none, .store 9 (.t 3) (.t 7), [2, 1, 0, 1, 2], none⟩])
 (.seq
 (.seq
 (.reg false [⟨(some 8), .faddr 9 (.t 1), [], none⟩,
 ⟨(some 9), .load false 1 (.t 8), [0], none⟩,
 ⟨(some 10), .bin .lss (.t 9) (.k false [.v (.int .i64 1)]), [1], none⟩,
 ⟨(some 11), .mv (.t 10), [2], none⟩,
 ⟨(some 12), .faddr 9 (.t 1), [3], (some (11, false))⟩,
 ⟨(some 13), .load false 1 (.t 12), [4, 3], (some (11, false))⟩,
 ⟨(some 14), .bin .gtr (.t 13) (.k false [.v (.int .i64 25)]), [5, 3], (some (11, false))⟩,
 ⟨(some 15), .pick (.t 11) (.k false [.v (.bool true)]) (.t 14), [3, 6], none⟩,
 ⟨(some 16), .mv (.t 15), [7, 3], none⟩,
 ⟨(some 17), .load true 9 (.t 3), [8], (some (16, false))⟩,
 ⟨(some 18), .faddr 9 (.t 1), [8], (some (16, false))⟩,
 ⟨(some 19), .load false 1 (.t 18), [10, 8], (some (16, false))⟩,
 ⟨(some 20), .call 47 [(.t 17), (.t 19)], [9, 11, 8, 8], (some (16, false))⟩,
 ⟨(some 21), .un .not (.t 20), [12, 8], (some (16, false))⟩,
 ⟨(some 22), .pick (.t 16) (.k false [.v (.bool true)]) (.t 21), [8, 13], none⟩])
 (.cond (.t 22)
 (.seq
 (.reg false [⟨(some 2), .mv (.k false [.v (.bool false)]), [], none⟩])
 (.ret))
 (.skip)))
 (.seq
 (.reg false [⟨(some 24), .load true 9 (.t 3), [], none⟩,
 ⟨(some 25), .faddr 9 (.t 1), [], none⟩,
 ⟨(some 26), .load false 1 (.t 25), [1], none⟩,
 ⟨(some 27), .call 48 [(.t 24), (.t 26)], [0, 2], none⟩,
 ⟨(some 23), .mv (.t 27), [3], none⟩,
 ⟨(some 28), .ext (.t 23) 0, [4], none⟩,
 ⟨(some 29), .ext (.t 23) 1, [4], none⟩,
 ⟨(some 4), .alloc (List.replicate 9 (.v (.int .i64 0))), [], none⟩,
 ⟨none, .store 9 (.t 4) (.t 28), [7, 5, 3, 0, 1, 2, 3, 4, 5, 7], none⟩,
 ⟨(some 5), .mv (.t 29), [6, 8, 0, 1, 2, 3, 4, 5, 6, 7, 8], none⟩])
 (.seq
 (.reg true [⟨(some 30), .load true 9 (.t 3), [], none⟩,
 ⟨(some 31), .load true 9 (.t 3), [], none⟩,
 ⟨(some 32), .call 50 [(.t 31)], [1], none⟩,
 ⟨(some 33), .call 49 [(.t 30), (.t 32)], [0, 2, 2], none⟩,
 ⟨(some 34), .load true 9 (.g 0), [], none⟩,
 ⟨(some 35), .faddr 9 (.t 1), [], none⟩,
 ⟨(some 36), .load false 1 (.t 35), [5], none⟩,
 ⟨(some 37), .faddr 9 (.t 1), [], none⟩,
 ⟨(some 38), .load false 1 (.t 37), [7], none⟩,
 ⟨(some 39), .bin .mul (.t 36) (.t 38), [6, 8], none⟩,
 ⟨(some 40), .call 51 [(.t 34), (.t 39)], [4, 9, 3], none⟩,
 ⟨(some 41), .eqa false [some .i64, some .i64, some .i64, some .i64, some .i64, some .i64, some .i64, some .i64, some .i64] (.t 33) (.t 40), [3, 10], none⟩,
 ⟨(some 42), .mv (.t 41), [11, 10], none⟩,
 ⟨(some 43), .load true 9 (.t 3), [12], (some (42, true))⟩,
 ⟨(some 44), .call 52 [(.t 43)], [13, 12, 12], (some (42, true))⟩,
 ⟨(some 45), .faddr 9 (.t 1), [12], (some (42, true))⟩,
 ⟨(some 46), .load false 1 (.t 45), [15, 12], (some (42, true))⟩,
 ⟨(some 47), .faddr 9 (.t 1), [12], (some (42, true))⟩,
 ⟨(some 48), .load false 1 (.t 47), [17, 12], (some (42, true))⟩,
 ⟨(some 49), .bin .mul (.t 46) (.t 48), [16, 18, 12], (some (42, true))⟩,
 ⟨(some 50), .faddr 9 (.t 1), [12], (some (42, true))⟩,
 ⟨(some 51), .load false 1 (.t 50), [20, 12], (some (42, true))⟩,
 ⟨(some 52), .bin .mul (.t 49) (.t 51), [19, 21, 12], (some (42, true))⟩,
 ⟨(some 53), .bin .eql (.t 44) (.t 52), [14, 22, 12], (some (42, true))⟩,
 ⟨(some 54), .pick (.t 42) (.t 53) (.k false [.v (.bool false)]), [12, 23], none⟩,
 ⟨(some 55), .mv (.t 54), [24, 14], none⟩,
 ⟨(some 56), .mv (.t 5), [25], (some (55, true))⟩,
 ⟨(some 57), .faddr 9 (.t 1), [25], (some (55, true))⟩,
 ⟨(some 58), .load false 1 (.t 57), [27, 25], (some (55, true))⟩,
 ⟨(some 59), .bin .eql (.t 56) (.t 58), [26, 28, 25], (some (55, true))⟩,
 ⟨(some 60), .pick (.t 55) (.t 59) (.k false [.v (.bool false)]), [25, 29], none⟩,
 ⟨(some 2), .mv (.t 60), [30, 25, 0, 1, 2, 3, 4, 5, 6, 7, 8, 9, 10, 11, 12, 13, 14, 15, 16, 17, 18, 19, 20, 21, 22, 23, 24, 25, 26, 27, 28, 29, 30], none⟩])
 (.ret)))))
theorem A17_comp : Tryz.f17.body.bind (comp Tryz.prog Tryz.f17.ntmps []) = some A17 := by kernel_rfl
/- collet/turn.All -/
def A18 : ACode :=
 .seq
 (.reg false [⟨(some 0), .mv (.k false [.v (.slice none 0 0)]), [], none⟩])
 (.seq
 (.reg false [⟨(some 11), .build [.v (.int .i64 0), .v (.int .i64 0), .v (.int .i64 0)] [(0, 1, (.k false [.v (.int .i64 1)]))], [], none⟩,
 ⟨(some 12), .build [.v (.int .i64 0), .v (.int .i64 0), .v (.int .i64 0)] [(1, 1, (.k false [.v (.int .i64 1)]))], [], none⟩,
 ⟨(some 13), .build [.v (.int .i64 0), .v (.int .i64 0), .v (.int .i64 0)] [(2, 1, (.k false [.v (.int .i64 1)]))], [], none⟩,
 ⟨(some 14), .build (List.replicate 9 (.v (.int .i64 0))) [(0, 3, (.t 11)), (3, 3, (.t 12)), (6, 3, (.t 13))], [0, 1, 2], none⟩,
 ⟨(some 1), .alloc (List.replicate 9 (.v (.int .i64 0))), [], none⟩,
 ⟨none, .store 9 (.t 1) (.t 14), [4, 3, 0, 1, 2, 3, 4], none⟩])
 (.seq
 (.reg false [⟨(some 2), .mv (.k false [.v (.slice none 0 0)]), [], none⟩])
 (.seq
 (.seq
 (.reg false [⟨(some 15), .mv (.k false [.v (.int .i64 0)]), [], none⟩])
 (.block 0 (.loop (.seq
 (.reg false [⟨(some 16), .bin .lss (.t 15) (.k false [.v (.int .i64 3)]), [], none⟩])
 (.seq
 (.cond (.t 16)
 (.skip)
 (.exit 0))
 (.seq
 (.block 1 (.seq
 (.reg false [⟨(some 17), .mv (.t 15), [], none⟩,
 ⟨(some 3), .mv (.t 17), [0, 0], none⟩])
 (.reg false [⟨(some 18), .mv (.t 2), [], none⟩,
 ⟨(some 19), .build [.v (.int .i64 0), .v (.int .i64 0), .v (.int .i64 0)] [], [], none⟩,
 ⟨(some 20), .mv (.t 3), [], none⟩,
 ⟨(some 21), .ixarr 3 3 (.t 1) (.t 20), [2], none⟩,
 ⟨(some 22), .load true 3 (.t 21), [3], none⟩,
 ⟨(some 23), .call 9 [(.t 19), (.t 22)], [1, 4], none⟩,
 ⟨(some 24), .bslice 3 [(.t 23)], [5], none⟩,
 ⟨(some 25), .app 3 24 (.t 18) (.t 24), [0, 6, 5], none⟩,
 ⟨(some 2), .mv (.t 25), [7, 7, 0, 1, 2, 3, 4, 5, 6, 7], none⟩])))
 (.reg false [⟨(some 26), .bin .add (.t 15) (.k false [.v (.int .i64 1)]), [], none⟩,
 ⟨(some 15), .mv (.t 26), [0], none⟩])))))))
 (.seq
 (.seq
 (.reg false [⟨(some 27), .mv (.k false [.v (.int .i64 0)]), [], none⟩])
 (.block 2 (.loop (.seq
 (.reg false [⟨(some 28), .bin .lss (.t 27) (.k false [.v (.int .i64 3)]), [], none⟩])
 (.seq
 (.cond (.t 28)
 (.skip)
 (.exit 2))
 (.seq
 (.block 3 (.seq
 (.reg false [⟨(some 29), .mv (.t 27), [], none⟩,
 ⟨(some 4), .mv (.t 29), [0, 0], none⟩])
 (.reg false [⟨(some 30), .mv (.t 2), [], none⟩,
 ⟨(some 31), .mv (.t 4), [], none⟩,
 ⟨(some 32), .bin .sub (.k false [.v (.int .i64 2)]) (.t 31), [1], none⟩,
 ⟨(some 33), .ixarr 3 3 (.t 1) (.t 32), [2], none⟩,
 ⟨(some 34), .load true 3 (.t 33), [3], none⟩,
 ⟨(some 35), .bslice 3 [(.t 34)], [4], none⟩,
 ⟨(some 36), .app 3 24 (.t 30) (.t 35), [0, 5], none⟩,
 ⟨(some 2), .mv (.t 36), [6, 6, 0, 1, 2, 3, 4, 5, 6], none⟩])))
 (.reg false [⟨(some 37), .bin .add (.t 27) (.k false [.v (.int .i64 1)]), [], none⟩,
 ⟨(some 27), .mv (.t 37), [0], none⟩])))))))
 (.seq
 (.reg false [⟨(some 5), .mv (.k false [.v (.slice none 0 0)]), [], none⟩])
 (.seq
 (.seq
 (.reg false [⟨(some 38), .mv (.t 2), [], none⟩,
 ⟨(some 39), .len (.t 38), [0], none⟩,
 ⟨(some 40), .mv (.k false [.v (.int .i64 0)]), [], none⟩])
 (.block 4 (.loop (.seq
 (.reg false [⟨(some 41), .bin .lss (.t 40) (.t 39), [], none⟩])
 (.seq
 (.cond (.t 41)
 (.skip)
 (.exit 4))
 (.seq
 (.block 5 (.seq
 (.reg false [⟨(some 42), .ixsl 3 (.t 38) (.t 40), [], none⟩,
 ⟨(some 43), .load true 3 (.t 42), [0], none⟩,
 ⟨(some 7), .alloc [.v (.int .i64 0), .v (.int .i64 0), .v (.int .i64 0)], [], none⟩,
 ⟨none, .store 3 (.t 7) (.t 43), [2, 1, 0, 1, 2], none⟩])
 (.seq
 (.reg false [⟨(some 44), .mv (.t 2), [], none⟩,
 ⟨(some 45), .len (.t 44), [0], none⟩,
 ⟨(some 46), .mv (.k false [.v (.int .i64 0)]), [], none⟩])
 (.block 6 (.loop (.seq
 (.reg false [⟨(some 47), .bin .lss (.t 46) (.t 45), [], none⟩])
 (.seq
 (.cond (.t 47)
 (.skip)
 (.exit 6))
 (.seq
 (.block 7 (.seq
 (.reg false [⟨(some 48), .ixsl 3 (.t 44) (.t 46), [], none⟩,
 ⟨(some 49), .load true 3 (.t 48), [0], none⟩,
 ⟨(some 9), .alloc [.v (.int .i64 0), .v (.int .i64 0), .v (.int .i64 0)], [], none⟩,
 ⟨none, .store 3 (.t 9) (.t 49), [2, 1, 0, 1, 2], none⟩])
 (.seq
 (.reg false [⟨(some 50), .load true 3 (.t 7), [], none⟩,
 ⟨(some 51), .load true 3 (.t 9), [], none⟩,
 ⟨(some 52), .call 10 [(.t 50), (.t 51)], [0, 1], none⟩,
 ⟨(some 53), .bin .eql (.t 52) (.k false [.v (.int .i64 0)]), [2], none⟩])
 (.cond (.t 53)
 (.seq
 (.reg false [⟨(some 54), .load true 3 (.t 7), [], none⟩,
 ⟨(some 55), .load true 3 (.t 9), [], none⟩,
 ⟨(some 56), .call 53 [(.t 54), (.t 55)], [0, 1], none⟩,
 ⟨(some 10), .alloc [.v (.int .i64 0), .v (.int .i64 0), .v (.int .i64 0)], [], none⟩,
 ⟨none, .store 3 (.t 10) (.t 56), [3, 2, 2, 0, 1, 2, 3], none⟩])
 (.reg false [⟨(some 57), .mv (.t 5), [], none⟩,
 ⟨(some 58), .faddr 0 (.t 7), [], none⟩,
 ⟨(some 59), .load false 1 (.t 58), [1], none⟩,
 ⟨(some 60), .faddr 1 (.t 7), [], none⟩,
 ⟨(some 61), .load false 1 (.t 60), [3], none⟩,
 ⟨(some 62), .faddr 2 (.t 7), [], none⟩,
 ⟨(some 63), .load false 1 (.t 62), [5], none⟩,
 ⟨(some 64), .build [.v (.int .i64 0), .v (.int .i64 0), .v (.int .i64 0)] [(0, 1, (.t 59)), (1, 1, (.t 61)), (2, 1, (.t 63))], [2, 4, 6], none⟩,
 ⟨(some 65), .faddr 0 (.t 9), [], none⟩,
 ⟨(some 66), .load false 1 (.t 65), [8], none⟩,
 ⟨(some 67), .faddr 1 (.t 9), [], none⟩,
 ⟨(some 68), .load false 1 (.t 67), [10], none⟩,
 ⟨(some 69), .faddr 2 (.t 9), [], none⟩,
 ⟨(some 70), .load false 1 (.t 69), [12], none⟩,
 ⟨(some 71), .build [.v (.int .i64 0), .v (.int .i64 0), .v (.int .i64 0)] [(0, 1, (.t 66)), (1, 1, (.t 68)), (2, 1, (.t 70))], [9, 11, 13], none⟩,
 ⟨(some 72), .faddr 0 (.t 10), [], none⟩,
 ⟨(some 73), .load false 1 (.t 72), [15], none⟩,
 ⟨(some 74), .faddr 1 (.t 10), [], none⟩,
 ⟨(some 75), .load false 1 (.t 74), [17], none⟩,
 ⟨(some 76), .faddr 2 (.t 10), [], none⟩,
 ⟨(some 77), .load false 1 (.t 76), [19], none⟩,
 ⟨(some 78), .build [.v (.int .i64 0), .v (.int .i64 0), .v (.int .i64 0)] [(0, 1, (.t 73)), (1, 1, (.t 75)), (2, 1, (.t 77))], [16, 18, 20], none⟩,
 ⟨(some 79), .build (List.replicate 9 (.v (.int .i64 0))) [(0, 3, (.t 64)), (3, 3, (.t 71)), (6, 3, (.t 78))], [7, 14, 21], none⟩,
 ⟨(some 80), .build (List.replicate 10 (.v (.int .i64 0))) [(0, 9, (.t 79)), (9, 1, (.k false [.v (.int .i64 1)]))], [22], none⟩,
 ⟨(some 81), .bslice 10 [(.t 80)], [23], none⟩,
 ⟨(some 82), .app 10 80 (.t 57) (.t 81), [0, 24], none⟩,
 ⟨(some 5), .mv (.t 82), [25, 25, 0, 1, 2, 3, 4, 5, 6, 7, 8, 9, 10, 11, 12, 13, 14, 15, 16, 17, 18, 19, 20, 21, 22, 23, 24, 25], none⟩]))
 (.skip)))))
 (.reg false [⟨(some 83), .bin .add (.t 46) (.k false [.v (.int .i64 1)]), [], none⟩,
 ⟨(some 46), .mv (.t 83), [0], none⟩])))))))))
 (.reg false [⟨(some 84), .bin .add (.t 40) (.k false [.v (.int .i64 1)]), [], none⟩,
 ⟨(some 40), .mv (.t 84), [0], none⟩])))))))
 (.seq
 (.reg false [⟨(some 85), .mv (.t 5), [], none⟩,
 ⟨(some 0), .mv (.t 85), [0, 0], none⟩])
 (.ret))))))))
theorem A18_comp : Tryz.f18.body.bind (comp Tryz.prog Tryz.f18.ntmps []) = some A18 := by kernel_rfl
/- collet/turn.Back -/
def A21 : ACode :=
 .seq
 (.reg false [⟨(some 1), .box (.t 0), [], none⟩,
 ⟨(some 2), .alloc (List.replicate 13 (.v (.int .i64 0))), [], none⟩,
 ⟨(some 3), .mv (.k false [.v (.bool false)]), [], none⟩])
 (.seq
 (.seq
 (.reg false [⟨(some 7), .load true 13 (.t 1), [], none⟩,
 ⟨(some 8), .call 29 [(.t 7)], [0], none⟩,
 ⟨(some 9), .un .not (.t 8), [1], none⟩])
 (.cond (.t 9)
 (.seq
 (.reg false [⟨(some 10), .build (List.replicate 13 (.v (.int .i64 0))) [], [], none⟩,
 ⟨none, .store 13 (.t 2) (.t 10), [0, 0], none⟩,
 ⟨(some 3), .mv (.k false [.v (.bool false)]), [1, 0, 1], none⟩])
 (.ret))
 (.skip)))
 (.seq
 (.reg false [⟨(some 11), .faddr 0 (.t 1), [], none⟩,
 ⟨(some 12), .faddr 0 (.t 11), [0], none⟩,
 ⟨(some 13), .load true 9 (.t 12), [1], none⟩,
 ⟨(some 14), .call 50 [(.t 13)], [2], none⟩,
 ⟨(some 4), .alloc (List.replicate 9 (.v (.int .i64 0))), [], none⟩,
 ⟨none, .store 9 (.t 4) (.t 14), [4, 3, 3, 0, 1, 2, 3, 4], none⟩])
 (.seq
 (.reg true [⟨(some 16), .load true 9 (.t 4), [], none⟩,
 ⟨(some 17), .faddr 10 (.t 1), [], none⟩,
 ⟨(some 18), .load true 3 (.t 17), [1], none⟩,
 ⟨(some 19), .call 32 [(.t 16), (.t 18)], [0, 2], none⟩,
 ⟨(some 20), .faddr 0 (.t 1), [], none⟩,
 ⟨(some 21), .faddr 9 (.t 20), [4], none⟩,
 ⟨(some 22), .load false 1 (.t 21), [5], none⟩,
 ⟨(some 23), .call 31 [(.t 19), (.t 22)], [3, 6, 3], none⟩,
 ⟨(some 15), .mv (.t 23), [7], none⟩,
 ⟨(some 24), .ext (.t 15) 0, [8], none⟩,
 ⟨(some 25), .ext (.t 15) 1, [8], none⟩,
 ⟨(some 5), .alloc [.v (.int .i64 0), .v (.int .i64 0), .v (.int .i64 0)], [], none⟩,
 ⟨none, .store 3 (.t 5) (.t 24), [11, 9, 7, 0, 1, 2, 3, 4, 5, 6, 7, 8, 9, 11], none⟩,
 ⟨(some 6), .mv (.t 25), [10, 12, 0, 1, 2, 3, 4, 5, 6, 7, 8, 9, 10, 11, 12], none⟩])
 (.seq
 (.seq
 (.reg false [⟨(some 26), .mv (.t 6), [], none⟩,
 ⟨(some 27), .un .not (.t 26), [0], none⟩])
 (.cond (.t 27)
 (.seq
 (.reg false [⟨(some 28), .build (List.replicate 13 (.v (.int .i64 0))) [], [], none⟩,
 ⟨none, .store 13 (.t 2) (.t 28), [0, 0], none⟩,
 ⟨(some 3), .mv (.k false [.v (.bool false)]), [1, 0, 1], none⟩])
 (.ret))
 (.skip)))
 (.seq
 (.reg true [⟨(some 29), .load true 9 (.t 4), [], none⟩,
 ⟨(some 30), .faddr 0 (.t 1), [], none⟩,
 ⟨(some 31), .faddr 9 (.t 30), [1], none⟩,
 ⟨(some 32), .load false 1 (.t 31), [2], none⟩,
 ⟨(some 33), .build [.v (.int .i64 0), .v (.int .i64 0), .v (.int .i64 0)] [], [], none⟩,
 ⟨(some 34), .load true 3 (.t 5), [], none⟩,
 ⟨(some 35), .call 9 [(.t 33), (.t 34)], [4, 5], none⟩,
 ⟨(some 36), .call 54 [(.t 29), (.t 32), (.t 35)], [0, 3, 6, 6], none⟩,
 ⟨(some 37), .ext (.t 36) 0, [7], none⟩,
 ⟨(some 38), .ext (.t 36) 1, [7], none⟩,
 ⟨none, .store 13 (.t 2) (.t 37), [8, 7, 0, 1, 2, 3, 4, 5, 6, 7, 8, 9], none⟩,
 ⟨(some 3), .mv (.t 38), [9, 10, 0, 1, 2, 3, 4, 5, 6, 7, 8, 9, 10], none⟩])
 (.ret))))))
theorem A21_comp : Tryz.f21.body.bind (comp Tryz.prog Tryz.f21.ntmps []) = some A21 := by kernel_rfl
/- collet/turn.After -/
def A22 : ACode :=
 .seq
 (.reg false [⟨(some 2), .box (.t 0), [], none⟩,
 ⟨(some 3), .box (.t 1), [], none⟩,
 ⟨(some 4), .alloc (List.replicate 13 (.v (.int .i64 0))), [], none⟩,
 ⟨(some 5), .mv (.k false [.v (.bool false)]), [], none⟩])
 (.seq
 (.seq
 (.reg false [⟨(some 11), .load true 13 (.t 2), [], none⟩,
 ⟨(some 12), .call 29 [(.t 11)], [0], none⟩,
 ⟨(some 13), .un .not (.t 12), [1], none⟩,
 ⟨(some 14), .mv (.t 13), [2, 1], none⟩,
 ⟨(some 15), .load true 13 (.t 3), [3], (some (14, false))⟩,
 ⟨(some 16), .call 29 [(.t 15)], [4, 3, 3], (some (14, false))⟩,
 ⟨(some 17), .un .not (.t 16), [5, 3], (some (14, false))⟩,
 ⟨(some 18), .pick (.t 14) (.k false [.v (.bool true)]) (.t 17), [3, 6], none⟩])
 (.cond (.t 18)
 (.seq
 (.reg false [⟨(some 19), .build (List.replicate 13 (.v (.int .i64 0))) [], [], none⟩,
 ⟨none, .store 13 (.t 4) (.t 19), [0, 0], none⟩,
 ⟨(some 5), .mv (.k false [.v (.bool false)]), [1, 0, 1], none⟩])
 (.ret))
 (.skip)))
 (.seq
 (.reg false [⟨(some 20), .faddr 0 (.t 3), [], none⟩,
 ⟨(some 21), .faddr 0 (.t 20), [0], none⟩,
 ⟨(some 22), .load true 9 (.t 21), [1], none⟩,
 ⟨(some 6), .alloc (List.replicate 9 (.v (.int .i64 0))), [], none⟩,
 ⟨none, .store 9 (.t 6) (.t 22), [3, 2, 0, 1, 2, 3], none⟩])
 (.seq
 (.reg true [⟨(some 24), .load true 9 (.t 6), [], none⟩,
 ⟨(some 25), .faddr 10 (.t 2), [], none⟩,
 ⟨(some 26), .load true 3 (.t 25), [1], none⟩,
 ⟨(some 27), .call 32 [(.t 24), (.t 26)], [0, 2], none⟩,
 ⟨(some 28), .faddr 0 (.t 3), [], none⟩,
 ⟨(some 29), .faddr 9 (.t 28), [4], none⟩,
 ⟨(some 30), .load false 1 (.t 29), [5], none⟩,
 ⟨(some 31), .call 31 [(.t 27), (.t 30)], [3, 6, 3], none⟩,
 ⟨(some 23), .mv (.t 31), [7], none⟩,
 ⟨(some 32), .ext (.t 23) 0, [8], none⟩,
 ⟨(some 33), .ext (.t 23) 1, [8], none⟩,
 ⟨(some 7), .alloc [.v (.int .i64 0), .v (.int .i64 0), .v (.int .i64 0)], [], none⟩,
 ⟨none, .store 3 (.t 7) (.t 32), [11, 9, 7, 0, 1, 2, 3, 4, 5, 6, 7, 8, 9, 11], none⟩,
 ⟨(some 8), .mv (.t 33), [10, 12, 0, 1, 2, 3, 4, 5, 6, 7, 8, 9, 10, 11, 12], none⟩])
 (.seq
 (.seq
 (.reg false [⟨(some 34), .mv (.t 8), [], none⟩,
 ⟨(some 35), .un .not (.t 34), [0], none⟩])
 (.cond (.t 35)
 (.seq
 (.reg false [⟨(some 36), .build (List.replicate 13 (.v (.int .i64 0))) [], [], none⟩,
 ⟨none, .store 13 (.t 4) (.t 36), [0, 0], none⟩,
 ⟨(some 5), .mv (.k false [.v (.bool false)]), [1, 0, 1], none⟩])
 (.ret))
 (.skip)))
 (.seq
 (.reg true [⟨(some 38), .load true 9 (.t 6), [], none⟩,
 ⟨(some 39), .faddr 0 (.t 2), [], none⟩,
 ⟨(some 40), .faddr 0 (.t 39), [1], none⟩,
 ⟨(some 41), .load true 9 (.t 40), [2], none⟩,
 ⟨(some 42), .call 49 [(.t 38), (.t 41)], [0, 3], none⟩,
 ⟨(some 43), .faddr 0 (.t 2), [], none⟩,
 ⟨(some 44), .faddr 9 (.t 43), [5], none⟩,
 ⟨(some 45), .load false 1 (.t 44), [6], none⟩,
 ⟨(some 46), .faddr 0 (.t 3), [], none⟩,
 ⟨(some 47), .faddr 9 (.t 46), [8], none⟩,
 ⟨(some 48), .load false 1 (.t 47), [9], none⟩,
 ⟨(some 49), .bin .mul (.t 45) (.t 48), [7, 10], none⟩,
 ⟨(some 50), .call 48 [(.t 42), (.t 49)], [4, 11, 4], none⟩,
 ⟨(some 37), .mv (.t 50), [12], none⟩,
 ⟨(some 51), .ext (.t 37) 0, [13], none⟩,
 ⟨(some 52), .ext (.t 37) 1, [13], none⟩,
 ⟨(some 9), .alloc (List.replicate 9 (.v (.int .i64 0))), [], none⟩,
 ⟨none, .store 9 (.t 9) (.t 51), [16, 14, 12, 0, 1, 2, 3, 4, 5, 6, 7, 8, 9, 10, 11, 12, 13, 14, 16], none⟩,
 ⟨(some 10), .mv (.t 52), [15, 17, 0, 1, 2, 3, 4, 5, 6, 7, 8, 9, 10, 11, 12, 13, 14, 15, 16, 17], none⟩])
 (.seq
 (.reg true [⟨(some 53), .load true 9 (.t 9), [], none⟩,
 ⟨(some 54), .mv (.t 10), [], none⟩,
 ⟨(some 55), .load true 3 (.t 7), [], none⟩,
 ⟨(some 56), .faddr 10 (.t 3), [], none⟩,
 ⟨(some 57), .load true 3 (.t 56), [3], none⟩,
 ⟨(some 58), .call 33 [(.t 55), (.t 57)], [2, 4], none⟩,
 ⟨(some 59), .call 54 [(.t 53), (.t 54), (.t 58)], [0, 1, 5, 5], none⟩,
 ⟨(some 60), .ext (.t 59) 0, [6], none⟩,
 ⟨(some 61), .ext (.t 59) 1, [6], none⟩,
 ⟨none, .store 13 (.t 4) (.t 60), [7, 6, 0, 1, 2, 3, 4, 5, 6, 7, 8], none⟩,
 ⟨(some 5), .mv (.t 61), [8, 9, 0, 1, 2, 3, 4, 5, 6, 7, 8, 9], none⟩])
 (.ret)))))))
theorem A22_comp : Tryz.f22.body.bind (comp Tryz.prog Tryz.f22.ntmps []) = some A22 := by kernel_rfl
/- collet/turn.valid -/
def A29 : ACode :=
 .seq
 (.reg false [⟨(some 1), .box (.t 0), [], none⟩,
 ⟨(some 2), .mv (.k false [.v (.bool false)]), [], none⟩])
 (.seq
 (.reg false [⟨(some 3), .faddr 10 (.t 1), [], none⟩,
 ⟨(some 4), .load true 3 (.t 3), [0], none⟩,
 ⟨(some 5), .call 68 [(.t 4)], [1], none⟩,
 ⟨(some 6), .mv (.t 5), [2, 2], none⟩,
 ⟨(some 7), .faddr 0 (.t 1), [3], (some (6, true))⟩,
 ⟨(some 8), .load true 10 (.t 7), [4, 3], (some (6, true))⟩,
 ⟨(some 9), .call 17 [(.t 8)], [5, 3, 3], (some (6, true))⟩,
 ⟨(some 10), .pick (.t 6) (.t 9) (.k false [.v (.bool false)]), [3, 6], none⟩,
 ⟨(some 2), .mv (.t 10), [7, 6, 0, 1, 2, 3, 4, 5, 6, 7], none⟩])
 (.ret))
theorem A29_comp : Tryz.f29.body.bind (comp Tryz.prog Tryz.f29.ntmps []) = some A29 := by kernel_rfl
/- collet/turn.divided -/
def A31 : ACode :=
 .seq
 (.reg false [⟨(some 2), .box (.t 0), [], none⟩,
 ⟨(some 4), .alloc [.v (.int .i64 0), .v (.int .i64 0), .v (.int .i64 0)], [], none⟩,
 ⟨(some 5), .mv (.k false [.v (.bool false)]), [], none⟩])
 (.seq
 (.reg true [⟨(some 6), .faddr 0 (.t 2), [], none⟩,
 ⟨(some 7), .load false 1 (.t 6), [0], none⟩,
 ⟨(some 8), .mv (.t 1), [], none⟩,
 ⟨(some 9), .bin .quo (.t 7) (.t 8), [1, 2], none⟩,
 ⟨(some 10), .faddr 1 (.t 2), [], none⟩,
 ⟨(some 11), .load false 1 (.t 10), [4], none⟩,
 ⟨(some 12), .mv (.t 1), [], none⟩,
 ⟨(some 13), .bin .quo (.t 11) (.t 12), [5, 6], none⟩,
 ⟨(some 14), .faddr 2 (.t 2), [], none⟩,
 ⟨(some 15), .load false 1 (.t 14), [8], none⟩,
 ⟨(some 16), .mv (.t 1), [], none⟩,
 ⟨(some 17), .bin .quo (.t 15) (.t 16), [9, 10], none⟩,
 ⟨(some 18), .build [.v (.int .i64 0), .v (.int .i64 0), .v (.int .i64 0)] [(0, 1, (.t 9)), (1, 1, (.t 13)), (2, 1, (.t 17))], [3, 7, 11], none⟩,
 ⟨(some 19), .faddr 0 (.t 2), [], none⟩,
 ⟨(some 20), .load false 1 (.t 19), [13], none⟩,
 ⟨(some 21), .mv (.t 1), [], none⟩,
 ⟨(some 22), .bin .rem (.t 20) (.t 21), [14, 15], none⟩,
 ⟨(some 23), .bin .eql (.t 22) (.k false [.v (.int .i64 0)]), [16], none⟩,
 ⟨(some 24), .mv (.t 23), [17], none⟩,
 ⟨(some 25), .faddr 1 (.t 2), [18], (some (24, true))⟩,
 ⟨(some 26), .load false 1 (.t 25), [19, 18], (some (24, true))⟩,
 ⟨(some 27), .mv (.t 1), [18], (some (24, true))⟩,
 ⟨(some 28), .bin .rem (.t 26) (.t 27), [20, 21, 18], (some (24, true))⟩,
 ⟨(some 29), .bin .eql (.t 28) (.k false [.v (.int .i64 0)]), [22, 18], (some (24, true))⟩,
 ⟨(some 30), .pick (.t 24) (.t 29) (.k false [.v (.bool false)]), [18, 23], none⟩,
 ⟨(some 31), .mv (.t 30), [24, 18], none⟩,
 ⟨(some 32), .faddr 2 (.t 2), [25], (some (31, true))⟩,
 ⟨(some 33), .load false 1 (.t 32), [26, 25], (some (31, true))⟩,
 ⟨(some 34), .mv (.t 1), [25], (some (31, true))⟩,
 ⟨(some 35), .bin .rem (.t 33) (.t 34), [27, 28, 25], (some (31, true))⟩,
 ⟨(some 36), .bin .eql (.t 35) (.k false [.v (.int .i64 0)]), [29, 25], (some (31, true))⟩,
 ⟨(some 37), .pick (.t 31) (.t 36) (.k false [.v (.bool false)]), [25, 30], none⟩,
 ⟨none, .store 3 (.t 4) (.t 18), [12, 25, 0, 1, 2, 3, 4, 5, 6, 7, 8, 9, 10, 11, 12], none⟩,
 ⟨(some 5), .mv (.t 37), [31, 32, 0, 1, 2, 3, 4, 5, 6, 7, 8, 9, 10, 11, 12, 13, 14, 15, 16, 17, 18, 19, 20, 21, 22, 23, 24, 25, 26, 27, 28, 29, 30, 31, 32], none⟩])
 (.ret))
theorem A31_comp : Tryz.f31.body.bind (comp Tryz.prog Tryz.f31.ntmps []) = some A31 := by kernel_rfl
/- (collet/turn.matrix).of -/
def A32 : ACode :=
 .seq
 (.reg false [⟨(some 2), .box (.t 0), [], none⟩,
 ⟨(some 3), .box (.t 1), [], none⟩,
 ⟨(some 4), .alloc [.v (.int .i64 0), .v (.int .i64 0), .v (.int .i64 0)], [], none⟩])
 (.seq
 (.reg false [⟨(some 5), .alloc [.v (.int .i64 0), .v (.int .i64 0), .v (.int .i64 0)], [], none⟩])
 (.seq
 (.seq
 (.reg false [⟨(some 7), .mv (.k false [.v (.int .i64 0)]), [], none⟩])
 (.block 0 (.loop (.seq
 (.reg false [⟨(some 8), .bin .lss (.t 7) (.k false [.v (.int .i64 3)]), [], none⟩])
 (.seq
 (.cond (.t 8)
 (.skip)
 (.exit 0))
 (.seq
 (.block 1 (.seq
 (.reg false [⟨(some 9), .mv (.t 7), [], none⟩,
 ⟨(some 6), .mv (.t 9), [0, 0], none⟩])
 (.reg true [⟨(some 10), .mv (.t 6), [], none⟩,
 ⟨(some 11), .mv (.t 6), [], none⟩,
 ⟨(some 12), .ixarr 3 3 (.t 2) (.t 11), [1], none⟩,
 ⟨(some 13), .ixarr 3 1 (.t 12) (.k false [.v (.int .i64 0)]), [2], none⟩,
 ⟨(some 14), .load false 1 (.t 13), [3], none⟩,
 ⟨(some 15), .faddr 0 (.t 3), [], none⟩,
 ⟨(some 16), .load false 1 (.t 15), [5], none⟩,
 ⟨(some 17), .bin .mul (.t 14) (.t 16), [4, 6], none⟩,
 ⟨(some 18), .mv (.t 6), [], none⟩,
 ⟨(some 19), .ixarr 3 3 (.t 2) (.t 18), [8], none⟩,
 ⟨(some 20), .ixarr 3 1 (.t 19) (.k false [.v (.int .i64 1)]), [9], none⟩,
 ⟨(some 21), .load false 1 (.t 20), [10], none⟩,
 ⟨(some 22), .faddr 1 (.t 3), [], none⟩,
 ⟨(some 23), .load false 1 (.t 22), [12], none⟩,
 ⟨(some 24), .bin .mul (.t 21) (.t 23), [11, 13], none⟩,
 ⟨(some 25), .bin .add (.t 17) (.t 24), [7, 14], none⟩,
 ⟨(some 26), .mv (.t 6), [], none⟩,
 ⟨(some 27), .ixarr 3 3 (.t 2) (.t 26), [16], none⟩,
 ⟨(some 28), .ixarr 3 1 (.t 27) (.k false [.v (.int .i64 2)]), [17], none⟩,
 ⟨(some 29), .load false 1 (.t 28), [18], none⟩,
 ⟨(some 30), .faddr 2 (.t 3), [], none⟩,
 ⟨(some 31), .load false 1 (.t 30), [20], none⟩,
 ⟨(some 32), .bin .mul (.t 29) (.t 31), [19, 21], none⟩,
 ⟨(some 33), .bin .add (.t 25) (.t 32), [15, 22], none⟩,
 ⟨(some 34), .ixarr 3 1 (.t 5) (.t 10), [0, 0, 1, 2, 3, 4, 5, 6, 7, 8, 9, 10, 11, 12, 13, 14, 15, 16, 17, 18, 19, 20, 21, 22, 23], none⟩,
 ⟨none, .store 1 (.t 34) (.t 33), [24, 23, 0, 1, 2, 3, 4, 5, 6, 7, 8, 9, 10, 11, 12, 13, 14, 15, 16, 17, 18, 19, 20, 21, 22, 23], none⟩])))
 (.reg false [⟨(some 35), .bin .add (.t 7) (.k false [.v (.int .i64 1)]), [], none⟩,
 ⟨(some 7), .mv (.t 35), [0], none⟩])))))))
 (.seq
 (.reg false [⟨(some 36), .ixarr 3 1 (.t 5) (.k false [.v (.int .i64 0)]), [], none⟩,
 ⟨(some 37), .load false 1 (.t 36), [0], none⟩,
 ⟨(some 38), .ixarr 3 1 (.t 5) (.k false [.v (.int .i64 1)]), [], none⟩,
 ⟨(some 39), .load false 1 (.t 38), [2], none⟩,
 ⟨(some 40), .ixarr 3 1 (.t 5) (.k false [.v (.int .i64 2)]), [], none⟩,
 ⟨(some 41), .load false 1 (.t 40), [4], none⟩,
 ⟨(some 42), .build [.v (.int .i64 0), .v (.int .i64 0), .v (.int .i64 0)] [(0, 1, (.t 37)), (1, 1, (.t 39)), (2, 1, (.t 41))], [1, 3, 5], none⟩,
 ⟨none, .store 3 (.t 4) (.t 42), [6, 0, 1, 2, 3, 4, 5, 6], none⟩])
 (.ret))))
theorem A32_comp : Tryz.f32.body.bind (comp Tryz.prog Tryz.f32.ntmps []) = some A32 := by kernel_rfl
/- (collet/turn.matrix).within -/
def A47 : ACode :=
 .seq
 (.reg false [⟨(some 2), .box (.t 0), [], none⟩,
 ⟨(some 4), .mv (.k false [.v (.bool false)]), [], none⟩])
 (.seq
 (.seq
 (.reg false [⟨(some 7), .mv (.k false [.v (.int .i64 0)]), [], none⟩])
 (.block 0 (.loop (.seq
 (.reg false [⟨(some 8), .bin .lss (.t 7) (.k false [.v (.int .i64 9)]), [], none⟩])
 (.seq
 (.cond (.t 8)
 (.skip)
 (.exit 0))
 (.seq
 (.block 1 (.seq
 (.reg false [⟨(some 9), .mv (.t 7), [], none⟩,
 ⟨(some 5), .mv (.t 9), [0, 0], none⟩])
 (.seq
 (.reg false [⟨(some 10), .mv (.t 5), [], none⟩,
 ⟨(some 11), .bin .quo (.t 10) (.k false [.v (.int .i64 3)]), [0], none⟩,
 ⟨(some 12), .mv (.t 5), [], none⟩,
 ⟨(some 13), .bin .rem (.t 12) (.k false [.v (.int .i64 3)]), [2], none⟩,
 ⟨(some 14), .ixarr 3 3 (.t 2) (.t 11), [1], none⟩,
 ⟨(some 15), .ixarr 3 1 (.t 14) (.t 13), [4, 3], none⟩,
 ⟨(some 16), .load false 1 (.t 15), [5], none⟩,
 ⟨(some 6), .mv (.t 16), [6, 0, 1, 2, 3, 4, 5, 6], none⟩])
 (.seq
 (.reg false [⟨(some 17), .mv (.t 6), [], none⟩,
 ⟨(some 18), .mv (.t 1), [], none⟩,
 ⟨(some 19), .un .neg (.t 18), [1], none⟩,
 ⟨(some 20), .bin .lss (.t 17) (.t 19), [0, 2], none⟩,
 ⟨(some 21), .mv (.t 20), [3], none⟩,
 ⟨(some 22), .mv (.t 6), [4], (some (21, false))⟩,
 ⟨(some 23), .mv (.t 1), [4], (some (21, false))⟩,
 ⟨(some 24), .bin .gtr (.t 22) (.t 23), [5, 6, 4], (some (21, false))⟩,
 ⟨(some 25), .pick (.t 21) (.k false [.v (.bool true)]) (.t 24), [4, 7], none⟩])
 (.cond (.t 25)
 (.seq
 (.reg false [⟨(some 4), .mv (.k false [.v (.bool false)]), [], none⟩])
 (.ret))
 (.skip))))))
 (.reg false [⟨(some 26), .bin .add (.t 7) (.k false [.v (.int .i64 1)]), [], none⟩,
 ⟨(some 7), .mv (.t 26), [0], none⟩])))))))
 (.seq
 (.reg false [⟨(some 4), .mv (.k false [.v (.bool true)]), [], none⟩])
 (.ret)))
theorem A47_comp : Tryz.f47.body.bind (comp Tryz.prog Tryz.f47.ntmps []) = some A47 := by kernel_rfl
/- (collet/turn.matrix).reduced -/
def A48 : ACode :=
 .seq
 (.reg false [⟨(some 2), .box (.t 0), [], none⟩,
 ⟨(some 4), .alloc (List.replicate 9 (.v (.int .i64 0))), [], none⟩,
 ⟨(some 5), .mv (.k false [.v (.int .i64 0)]), [], none⟩])
 (.seq
 (.reg false [⟨(some 10), .mv (.t 1), [], none⟩,
 ⟨(some 6), .mv (.t 10), [0, 0], none⟩])
 (.seq
 (.seq
 (.reg false [⟨(some 11), .mv (.k false [.v (.int .i64 0)]), [], none⟩])
 (.block 0 (.loop (.seq
 (.reg false [⟨(some 12), .bin .lss (.t 11) (.k false [.v (.int .i64 9)]), [], none⟩])
 (.seq
 (.cond (.t 12)
 (.skip)
 (.exit 0))
 (.seq
 (.block 1 (.seq
 (.reg false [⟨(some 13), .mv (.t 11), [], none⟩,
 ⟨(some 7), .mv (.t 13), [0, 0], none⟩])
 (.seq
 (.reg true [⟨(some 14), .mv (.t 7), [], none⟩,
 ⟨(some 15), .bin .quo (.t 14) (.k false [.v (.int .i64 3)]), [0], none⟩,
 ⟨(some 16), .mv (.t 7), [], none⟩,
 ⟨(some 17), .bin .rem (.t 16) (.k false [.v (.int .i64 3)]), [2], none⟩,
 ⟨(some 18), .ixarr 3 3 (.t 2) (.t 15), [1], none⟩,
 ⟨(some 19), .ixarr 3 1 (.t 18) (.t 17), [4, 3], none⟩,
 ⟨(some 20), .load false 1 (.t 19), [5], none⟩,
 ⟨(some 21), .mv (.t 7), [], none⟩,
 ⟨(some 22), .bin .quo (.t 21) (.k false [.v (.int .i64 3)]), [7], none⟩,
 ⟨(some 23), .mv (.t 7), [], none⟩,
 ⟨(some 24), .bin .rem (.t 23) (.k false [.v (.int .i64 3)]), [9], none⟩,
 ⟨(some 25), .ixarr 3 3 (.t 2) (.t 22), [8], none⟩,
 ⟨(some 26), .ixarr 3 1 (.t 25) (.t 24), [11, 10], none⟩,
 ⟨(some 27), .load false 1 (.t 26), [12], none⟩,
 ⟨(some 28), .un .neg (.t 27), [13], none⟩,
 ⟨(some 29), .mx [(.t 20), (.t 28)], [6, 14], none⟩,
 ⟨(some 8), .mv (.t 29), [15, 0, 1, 2, 3, 4, 5, 6, 7, 8, 9, 10, 11, 12, 13, 14, 15], none⟩])
 (.block 2 (.loop (.seq
 (.seq
 (.reg false [⟨(some 30), .mv (.t 8), [], none⟩,
 ⟨(some 31), .bin .gtr (.t 30) (.k false [.v (.int .i64 0)]), [0], none⟩])
 (.cond (.t 31)
 (.skip)
 (.exit 2)))
 (.block 3 (.reg true [⟨(some 32), .mv (.t 8), [], none⟩,
 ⟨(some 33), .mv (.t 6), [], none⟩,
 ⟨(some 34), .mv (.t 8), [], none⟩,
 ⟨(some 35), .bin .rem (.t 33) (.t 34), [1, 2], none⟩,
 ⟨(some 6), .mv (.t 32), [0, 0, 1], none⟩,
 ⟨(some 8), .mv (.t 35), [3, 4, 0, 1, 2, 3, 4], none⟩]))))))))
 (.reg false [⟨(some 36), .bin .add (.t 11) (.k false [.v (.int .i64 1)]), [], none⟩,
 ⟨(some 11), .mv (.t 36), [0], none⟩])))))))
 (.seq
 (.seq
 (.reg false [⟨(some 37), .mv (.k false [.v (.int .i64 0)]), [], none⟩])
 (.block 4 (.loop (.seq
 (.reg false [⟨(some 38), .bin .lss (.t 37) (.k false [.v (.int .i64 9)]), [], none⟩])
 (.seq
 (.cond (.t 38)
 (.skip)
 (.exit 4))
 (.seq
 (.block 5 (.seq
 (.reg false [⟨(some 39), .mv (.t 37), [], none⟩,
 ⟨(some 9), .mv (.t 39), [0, 0], none⟩])
 (.reg true [⟨(some 40), .mv (.t 9), [], none⟩,
 ⟨(some 41), .bin .quo (.t 40) (.k false [.v (.int .i64 3)]), [0], none⟩,
 ⟨(some 42), .mv (.t 9), [], none⟩,
 ⟨(some 43), .bin .rem (.t 42) (.k false [.v (.int .i64 3)]), [2], none⟩,
 ⟨(some 44), .ixarr 3 3 (.t 2) (.t 41), [1], none⟩,
 ⟨(some 45), .ixarr 3 1 (.t 44) (.t 43), [4, 3], none⟩,
 ⟨(some 46), .load false 1 (.t 45), [5], none⟩,
 ⟨(some 47), .mv (.t 6), [], none⟩,
 ⟨(some 48), .bin .quo (.t 46) (.t 47), [6, 7], none⟩,
 ⟨(some 49), .ixarr 3 3 (.t 2) (.t 41), [1], none⟩,
 ⟨(some 50), .ixarr 3 1 (.t 49) (.t 43), [9, 3, 0, 1, 2, 3, 4, 5, 6, 7, 8], none⟩,
 ⟨none, .store 1 (.t 50) (.t 48), [10, 8, 0, 1, 2, 3, 4, 5, 6, 7, 8], none⟩])))
 (.reg false [⟨(some 51), .bin .add (.t 37) (.k false [.v (.int .i64 1)]), [], none⟩,
 ⟨(some 37), .mv (.t 51), [0], none⟩])))))))
 (.seq
 (.reg true [⟨(some 52), .load true 9 (.t 2), [], none⟩,
 ⟨(some 53), .mv (.t 1), [], none⟩,
 ⟨(some 54), .mv (.t 6), [], none⟩,
 ⟨(some 55), .bin .quo (.t 53) (.t 54), [1, 2], none⟩,
 ⟨none, .store 9 (.t 4) (.t 52), [0, 0], none⟩,
 ⟨(some 5), .mv (.t 55), [3, 4, 0, 1, 2, 3, 4], none⟩])
 (.ret)))))
theorem A48_comp : Tryz.f48.body.bind (comp Tryz.prog Tryz.f48.ntmps []) = some A48 := by kernel_rfl
/- (collet/turn.matrix).times -/
def A49 : ACode :=
 .seq
 (.reg false [⟨(some 2), .box (.t 0), [], none⟩,
 ⟨(some 3), .box (.t 1), [], none⟩,
 ⟨(some 4), .alloc (List.replicate 9 (.v (.int .i64 0))), [], none⟩])
 (.seq
 (.reg false [⟨(some 5), .alloc (List.replicate 9 (.v (.int .i64 0))), [], none⟩])
 (.seq
 (.seq
 (.reg false [⟨(some 10), .mv (.k false [.v (.int .i64 0)]), [], none⟩])
 (.block 0 (.loop (.seq
 (.reg false [⟨(some 11), .bin .lss (.t 10) (.k false [.v (.int .i64 9)]), [], none⟩])
 (.seq
 (.cond (.t 11)
 (.skip)
 (.exit 0))
 (.seq
 (.block 1 (.seq
 (.reg false [⟨(some 12), .mv (.t 10), [], none⟩,
 ⟨(some 6), .mv (.t 12), [0, 0], none⟩])
 (.seq
 (.reg false [⟨(some 13), .mv (.t 6), [], none⟩,
 ⟨(some 14), .bin .quo (.t 13) (.k false [.v (.int .i64 3)]), [0], none⟩,
 ⟨(some 15), .mv (.t 6), [], none⟩,
 ⟨(some 16), .bin .rem (.t 15) (.k false [.v (.int .i64 3)]), [2], none⟩,
 ⟨(some 7), .mv (.t 14), [1, 0, 1], none⟩,
 ⟨(some 8), .mv (.t 16), [3, 4, 0, 1, 2, 3, 4], none⟩])
 (.seq
 (.reg false [⟨(some 17), .mv (.k false [.v (.int .i64 0)]), [], none⟩])
 (.block 2 (.loop (.seq
 (.reg false [⟨(some 18), .bin .lss (.t 17) (.k false [.v (.int .i64 3)]), [], none⟩])
 (.seq
 (.cond (.t 18)
 (.skip)
 (.exit 2))
 (.seq
 (.block 3 (.seq
 (.reg false [⟨(some 19), .mv (.t 17), [], none⟩,
 ⟨(some 9), .mv (.t 19), [0, 0], none⟩])
 (.reg true [⟨(some 20), .mv (.t 7), [], none⟩,
 ⟨(some 21), .mv (.t 8), [], none⟩,
 ⟨(some 22), .ixarr 3 3 (.t 5) (.t 20), [0], none⟩,
 ⟨(some 23), .ixarr 3 1 (.t 22) (.t 21), [2, 1], none⟩,
 ⟨(some 24), .load false 1 (.t 23), [3], none⟩,
 ⟨(some 25), .mv (.t 7), [], none⟩,
 ⟨(some 26), .mv (.t 9), [], none⟩,
 ⟨(some 27), .ixarr 3 3 (.t 2) (.t 25), [5], none⟩,
 ⟨(some 28), .ixarr 3 1 (.t 27) (.t 26), [7, 6], none⟩,
 ⟨(some 29), .load false 1 (.t 28), [8], none⟩,
 ⟨(some 30), .mv (.t 9), [], none⟩,
 ⟨(some 31), .mv (.t 8), [], none⟩,
 ⟨(some 32), .ixarr 3 3 (.t 3) (.t 30), [10], none⟩,
 ⟨(some 33), .ixarr 3 1 (.t 32) (.t 31), [12, 11], none⟩,
 ⟨(some 34), .load false 1 (.t 33), [13], none⟩,
 ⟨(some 35), .bin .mul (.t 29) (.t 34), [9, 14], none⟩,
 ⟨(some 36), .bin .add (.t 24) (.t 35), [4, 15], none⟩,
 ⟨(some 37), .ixarr 3 3 (.t 5) (.t 20), [0], none⟩,
 ⟨(some 38), .ixarr 3 1 (.t 37) (.t 21), [17, 1, 0, 1, 2, 3, 4, 5, 6, 7, 8, 9, 10, 11, 12, 13, 14, 15, 16], none⟩,
 ⟨none, .store 1 (.t 38) (.t 36), [18, 16, 0, 1, 2, 3, 4, 5, 6, 7, 8, 9, 10, 11, 12, 13, 14, 15, 16], none⟩])))
 (.reg false [⟨(some 39), .bin .add (.t 17) (.k false [.v (.int .i64 1)]), [], none⟩,
 ⟨(some 17), .mv (.t 39), [0], none⟩]))))))))))
 (.reg false [⟨(some 40), .bin .add (.t 10) (.k false [.v (.int .i64 1)]), [], none⟩,
 ⟨(some 10), .mv (.t 40), [0], none⟩])))))))
 (.seq
 (.reg false [⟨(some 41), .load true 9 (.t 5), [], none⟩,
 ⟨none, .store 9 (.t 4) (.t 41), [0, 0], none⟩])
 (.ret))))
theorem A49_comp : Tryz.f49.body.bind (comp Tryz.prog Tryz.f49.ntmps []) = some A49 := by kernel_rfl
/- (collet/turn.matrix).turned -/
def A50 : ACode :=
 .seq
 (.reg false [⟨(some 1), .box (.t 0), [], none⟩,
 ⟨(some 2), .alloc (List.replicate 9 (.v (.int .i64 0))), [], none⟩])
 (.seq
 (.reg false [⟨(some 3), .alloc (List.replicate 9 (.v (.int .i64 0))), [], none⟩])
 (.seq
 (.seq
 (.reg false [⟨(some 5), .mv (.k false [.v (.int .i64 0)]), [], none⟩])
 (.block 0 (.loop (.seq
 (.reg false [⟨(some 6), .bin .lss (.t 5) (.k false [.v (.int .i64 9)]), [], none⟩])
 (.seq
 (.cond (.t 6)
 (.skip)
 (.exit 0))
 (.seq
 (.block 1 (.seq
 (.reg false [⟨(some 7), .mv (.t 5), [], none⟩,
 ⟨(some 4), .mv (.t 7), [0, 0], none⟩])
 (.reg true [⟨(some 8), .mv (.t 4), [], none⟩,
 ⟨(some 9), .bin .rem (.t 8) (.k false [.v (.int .i64 3)]), [0], none⟩,
 ⟨(some 10), .mv (.t 4), [], none⟩,
 ⟨(some 11), .bin .quo (.t 10) (.k false [.v (.int .i64 3)]), [2], none⟩,
 ⟨(some 12), .mv (.t 4), [], none⟩,
 ⟨(some 13), .bin .quo (.t 12) (.k false [.v (.int .i64 3)]), [4], none⟩,
 ⟨(some 14), .mv (.t 4), [], none⟩,
 ⟨(some 15), .bin .rem (.t 14) (.k false [.v (.int .i64 3)]), [6], none⟩,
 ⟨(some 16), .ixarr 3 3 (.t 1) (.t 13), [5], none⟩,
 ⟨(some 17), .ixarr 3 1 (.t 16) (.t 15), [8, 7], none⟩,
 ⟨(some 18), .load false 1 (.t 17), [9], none⟩,
 ⟨(some 19), .ixarr 3 3 (.t 3) (.t 9), [1], none⟩,
 ⟨(some 20), .ixarr 3 1 (.t 19) (.t 11), [11, 3, 0, 1, 2, 3, 4, 5, 6, 7, 8, 9, 10], none⟩,
 ⟨none, .store 1 (.t 20) (.t 18), [12, 10, 0, 1, 2, 3, 4, 5, 6, 7, 8, 9, 10], none⟩])))
 (.reg false [⟨(some 21), .bin .add (.t 5) (.k false [.v (.int .i64 1)]), [], none⟩,
 ⟨(some 5), .mv (.t 21), [0], none⟩])))))))
 (.seq
 (.reg false [⟨(some 22), .load true 9 (.t 3), [], none⟩,
 ⟨none, .store 9 (.t 2) (.t 22), [0, 0], none⟩])
 (.ret))))
theorem A50_comp : Tryz.f50.body.bind (comp Tryz.prog Tryz.f50.ntmps []) = some A50 := by kernel_rfl
/- (collet/turn.matrix).scaled -/
def A51 : ACode :=
 .seq
 (.reg false [⟨(some 2), .box (.t 0), [], none⟩,
 ⟨(some 4), .alloc (List.replicate 9 (.v (.int .i64 0))), [], none⟩])
 (.seq
 (.seq
 (.reg false [⟨(some 6), .mv (.k false [.v (.int .i64 0)]), [], none⟩])
 (.block 0 (.loop (.seq
 (.reg false [⟨(some 7), .bin .lss (.t 6) (.k false [.v (.int .i64 9)]), [], none⟩])
 (.seq
 (.cond (.t 7)
 (.skip)
 (.exit 0))
 (.seq
 (.block 1 (.seq
 (.reg false [⟨(some 8), .mv (.t 6), [], none⟩,
 ⟨(some 5), .mv (.t 8), [0, 0], none⟩])
 (.reg true [⟨(some 9), .mv (.t 5), [], none⟩,
 ⟨(some 10), .bin .quo (.t 9) (.k false [.v (.int .i64 3)]), [0], none⟩,
 ⟨(some 11), .mv (.t 5), [], none⟩,
 ⟨(some 12), .bin .rem (.t 11) (.k false [.v (.int .i64 3)]), [2], none⟩,
 ⟨(some 13), .ixarr 3 3 (.t 2) (.t 10), [1], none⟩,
 ⟨(some 14), .ixarr 3 1 (.t 13) (.t 12), [4, 3], none⟩,
 ⟨(some 15), .load false 1 (.t 14), [5], none⟩,
 ⟨(some 16), .mv (.t 1), [], none⟩,
 ⟨(some 17), .bin .mul (.t 15) (.t 16), [6, 7], none⟩,
 ⟨(some 18), .ixarr 3 3 (.t 2) (.t 10), [1], none⟩,
 ⟨(some 19), .ixarr 3 1 (.t 18) (.t 12), [9, 3, 0, 1, 2, 3, 4, 5, 6, 7, 8], none⟩,
 ⟨none, .store 1 (.t 19) (.t 17), [10, 8, 0, 1, 2, 3, 4, 5, 6, 7, 8], none⟩])))
 (.reg false [⟨(some 20), .bin .add (.t 6) (.k false [.v (.int .i64 1)]), [], none⟩,
 ⟨(some 6), .mv (.t 20), [0], none⟩])))))))
 (.seq
 (.reg false [⟨(some 21), .load true 9 (.t 2), [], none⟩,
 ⟨none, .store 9 (.t 4) (.t 21), [0, 0], none⟩])
 (.ret)))
theorem A51_comp : Tryz.f51.body.bind (comp Tryz.prog Tryz.f51.ntmps []) = some A51 := by kernel_rfl
/- (collet/turn.matrix).det -/
def A52 : ACode :=
 .seq
 (.reg false [⟨(some 1), .box (.t 0), [], none⟩,
 ⟨(some 2), .mv (.k false [.v (.int .i64 0)]), [], none⟩])
 (.seq
 (.frz [] (.reg false [⟨(some 4), .mkfn 88 [] [(.t 1)], [], none⟩,
 ⟨(some 3), .mv (.t 4), [0, 0], none⟩]))
 (.seq
 (.reg false [⟨(some 5), .mv (.t 3), [], none⟩,
 ⟨(some 6), .dyn (.t 5) [(.k false [.v (.int .i64 0)])], [0], none⟩,
 ⟨(some 7), .mv (.t 3), [], none⟩,
 ⟨(some 8), .dyn (.t 7) [(.k false [.v (.int .i64 1)])], [2, 1], none⟩,
 ⟨(some 9), .mv (.t 3), [], none⟩,
 ⟨(some 10), .dyn (.t 9) [(.k false [.v (.int .i64 2)])], [4, 3], none⟩,
 ⟨(some 11), .call 53 [(.t 8), (.t 10)], [3, 5, 5], none⟩,
 ⟨(some 12), .call 10 [(.t 6), (.t 11)], [1, 6, 6], none⟩,
 ⟨(some 2), .mv (.t 12), [7, 7, 0, 1, 2, 3, 4, 5, 6, 7], none⟩])
 (.ret)))
theorem A52_comp : Tryz.f52.body.bind (comp Tryz.prog Tryz.f52.ntmps [1]) = some A52 := by kernel_rfl
/- collet/turn.framed -/
def A54 : ACode :=
 .seq
 (.reg false [⟨(some 3), .box (.t 0), [], none⟩,
 ⟨(some 5), .box (.t 2), [], none⟩,
 ⟨(some 6), .alloc (List.replicate 13 (.v (.int .i64 0))), [], none⟩,
 ⟨(some 7), .mv (.k false [.v (.bool false)]), [], none⟩])
 (.seq
 (.reg false [⟨(some 9), .load true 9 (.t 3), [], none⟩,
 ⟨(some 10), .mv (.t 1), [], none⟩,
 ⟨(some 11), .build (List.replicate 10 (.v (.int .i64 0))) [(0, 9, (.t 9)), (9, 1, (.t 10))], [0, 1], none⟩,
 ⟨(some 12), .load true 3 (.t 5), [], none⟩,
 ⟨(some 13), .build (List.replicate 13 (.v (.int .i64 0))) [(0, 10, (.t 11)), (10, 3, (.t 12))], [2, 3], none⟩,
 ⟨(some 8), .alloc (List.replicate 13 (.v (.int .i64 0))), [], none⟩,
 ⟨none, .store 13 (.t 8) (.t 13), [5, 4, 0, 1, 2, 3, 4, 5], none⟩])
 (.seq
 (.seq
 (.reg false [⟨(some 14), .load true 13 (.t 8), [], none⟩,
 ⟨(some 15), .call 29 [(.t 14)], [0], none⟩,
 ⟨(some 16), .un .not (.t 15), [1], none⟩])
 (.cond (.t 16)
 (.seq
 (.reg false [⟨(some 17), .build (List.replicate 13 (.v (.int .i64 0))) [], [], none⟩,
 ⟨none, .store 13 (.t 6) (.t 17), [0, 0], none⟩,
 ⟨(some 7), .mv (.k false [.v (.bool false)]), [1, 0, 1], none⟩])
 (.ret))
 (.skip)))
 (.seq
 (.reg false [⟨(some 18), .load true 13 (.t 8), [], none⟩,
 ⟨none, .store 13 (.t 6) (.t 18), [0, 0], none⟩,
 ⟨(some 7), .mv (.k false [.v (.bool true)]), [1, 0, 1], none⟩])
 (.ret))))
theorem A54_comp : Tryz.f54.body.bind (comp Tryz.prog Tryz.f54.ntmps []) = some A54 := by kernel_rfl
/- collet/turn.short -/
def A68 : ACode :=
 .seq
 (.reg false [⟨(some 1), .box (.t 0), [], none⟩,
 ⟨(some 2), .mv (.k false [.v (.bool false)]), [], none⟩])
 (.seq
 (.seq
 (.reg false [⟨(some 5), .faddr 0 (.t 1), [], none⟩,
 ⟨(some 6), .load false 1 (.t 5), [0], none⟩,
 ⟨(some 7), .faddr 1 (.t 1), [], none⟩,
 ⟨(some 8), .load false 1 (.t 7), [2], none⟩,
 ⟨(some 9), .faddr 2 (.t 1), [], none⟩,
 ⟨(some 10), .load false 1 (.t 9), [4], none⟩,
 ⟨(some 11), .build [.v (.int .i64 0), .v (.int .i64 0), .v (.int .i64 0)] [(0, 1, (.t 6)), (1, 1, (.t 8)), (2, 1, (.t 10))], [1, 3, 5], none⟩,
 ⟨(some 12), .mv (.k false [.v (.int .i64 0)]), [], none⟩])
 (.block 0 (.loop (.seq
 (.reg false [⟨(some 13), .bin .lss (.t 12) (.k false [.v (.int .i64 3)]), [], none⟩])
 (.seq
 (.cond (.t 13)
 (.skip)
 (.exit 0))
 (.seq
 (.block 1 (.seq
 (.reg false [⟨(some 14), .ix 3 1 false (.t 11) (.t 12), [], none⟩,
 ⟨(some 4), .mv (.t 14), [0, 0], none⟩])
 (.seq
 (.reg false [⟨(some 15), .mv (.t 4), [], none⟩,
 ⟨(some 16), .bin .lss (.t 15) (.k false [.v (.int .i64 (-96))]), [0], none⟩,
 ⟨(some 17), .mv (.t 16), [1], none⟩,
 ⟨(some 18), .mv (.t 4), [2], (some (17, false))⟩,
 ⟨(some 19), .bin .gtr (.t 18) (.k false [.v (.int .i64 96)]), [3, 2], (some (17, false))⟩,
 ⟨(some 20), .pick (.t 17) (.k false [.v (.bool true)]) (.t 19), [2, 4], none⟩])
 (.cond (.t 20)
 (.seq
 (.reg false [⟨(some 2), .mv (.k false [.v (.bool false)]), [], none⟩])
 (.ret))
 (.skip)))))
 (.reg false [⟨(some 21), .bin .add (.t 12) (.k false [.v (.int .i64 1)]), [], none⟩,
 ⟨(some 12), .mv (.t 21), [0], none⟩])))))))
 (.seq
 (.reg false [⟨(some 2), .mv (.k false [.v (.bool true)]), [], none⟩])
 (.ret)))
theorem A68_comp : Tryz.f68.body.bind (comp Tryz.prog Tryz.f68.ntmps []) = some A68 := by kernel_rfl
/- (collet/turn.matrix).det$1 -/
def A88 : ACode :=
 .seq
 (.reg false [⟨(some 3), .alloc [.v (.int .i64 0), .v (.int .i64 0), .v (.int .i64 0)], [], none⟩])
 (.seq
 (.reg true [⟨(some 4), .mv (.t 0), [], none⟩,
 ⟨(some 5), .ixarr 3 3 (.t 1) (.t 4), [0], none⟩,
 ⟨(some 6), .ixarr 3 1 (.t 5) (.k false [.v (.int .i64 0)]), [1], none⟩,
 ⟨(some 7), .load false 1 (.t 6), [2], none⟩,
 ⟨(some 8), .mv (.t 0), [], none⟩,
 ⟨(some 9), .ixarr 3 3 (.t 1) (.t 8), [4], none⟩,
 ⟨(some 10), .ixarr 3 1 (.t 9) (.k false [.v (.int .i64 1)]), [5], none⟩,
 ⟨(some 11), .load false 1 (.t 10), [6], none⟩,
 ⟨(some 12), .mv (.t 0), [], none⟩,
 ⟨(some 13), .ixarr 3 3 (.t 1) (.t 12), [8], none⟩,
 ⟨(some 14), .ixarr 3 1 (.t 13) (.k false [.v (.int .i64 2)]), [9], none⟩,
 ⟨(some 15), .load false 1 (.t 14), [10], none⟩,
 ⟨(some 16), .build [.v (.int .i64 0), .v (.int .i64 0), .v (.int .i64 0)] [(0, 1, (.t 7)), (1, 1, (.t 11)), (2, 1, (.t 15))], [3, 7, 11], none⟩,
 ⟨none, .store 3 (.t 3) (.t 16), [12, 0, 1, 2, 3, 4, 5, 6, 7, 8, 9, 10, 11, 12], none⟩])
 (.ret))
theorem A88_comp : Tryz.f88.body.bind (comp Tryz.prog Tryz.f88.ntmps []) = some A88 := by kernel_rfl
end Go.Proofs.YtlbafapmhjfobaaGreatDoor
