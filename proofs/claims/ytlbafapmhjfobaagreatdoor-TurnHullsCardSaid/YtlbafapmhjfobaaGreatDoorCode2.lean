/-
  The abstract code of the reference's and the law's functions, as a program of ours printed it; each is held by the kernel against the model's code.
-/
import Derived.Test.YtlbafapmhjfobaaGreatDoorAbs4
import Derived.Test.YtlbafapmhjfobaaGreatDoorProg
set_option linter.unusedVariables false
set_option linter.unusedSimpArgs false
namespace Go.Proofs.YtlbafapmhjfobaaGreatDoor
set_option maxRecDepth 100000
/- collet/colletlaw11.TurnHulls -/
def A3 : ACode :=
 .seq
 (.reg false [⟨(some 4), .mv (.k false [.v (.bool false)]), [], none⟩])
 (.seq
 (.reg false [⟨(some 37), .call 4 [], [], none⟩,
 ⟨(some 5), .mv (.t 37), [0, 0, 0], none⟩])
 (.seq
 (.reg false [⟨(some 38), .mv (.t 0), [], none⟩,
 ⟨(some 39), .call 5 [(.t 38)], [0], none⟩,
 ⟨(some 6), .alloc (List.replicate 13 (.v (.int .i64 0))), [], none⟩,
 ⟨none, .store 13 (.t 6) (.t 39), [2, 1, 1, 0, 1, 2], none⟩])
 (.seq
 (.reg false [⟨(some 40), .faddr 0 (.t 6), [], none⟩,
 ⟨(some 41), .faddr 9 (.t 40), [0], none⟩,
 ⟨(some 42), .load false 1 (.t 41), [1], none⟩,
 ⟨(some 7), .mv (.t 42), [2, 0, 1, 2], none⟩])
 (.seq
 (.reg false [⟨(some 43), .mv (.t 1), [], none⟩,
 ⟨(some 44), .call 6 [(.t 43)], [0], none⟩,
 ⟨(some 8), .mv (.t 44), [1, 1, 0, 1], none⟩])
 (.seq
 (.reg false [⟨(some 9), .mv (.k false [.v (.slice none 0 0)]), [], none⟩])
 (.seq
 (.seq
 (.reg false [⟨(some 45), .mv (.t 8), [], none⟩,
 ⟨(some 46), .len (.t 45), [0], none⟩,
 ⟨(some 47), .mv (.k false [.v (.int .i64 0)]), [], none⟩])
 (.block 0 (.loop (.seq
 (.reg false [⟨(some 48), .bin .lss (.t 47) (.t 46), [], none⟩])
 (.seq
 (.cond (.t 48)
 (.skip)
 (.exit 0))
 (.seq
 (.block 1 (.seq
 (.reg false [⟨(some 49), .mv (.t 47), [], none⟩,
 ⟨(some 50), .ixsl 3 (.t 45) (.t 47), [], none⟩,
 ⟨(some 51), .load true 3 (.t 50), [1], none⟩,
 ⟨(some 11), .alloc [.v (.int .i64 0), .v (.int .i64 0), .v (.int .i64 0)], [], none⟩,
 ⟨(some 10), .mv (.t 49), [0, 0, 1, 2, 3], none⟩,
 ⟨none, .store 3 (.t 11) (.t 51), [3, 2, 4, 0, 1, 2, 3, 4], none⟩])
 (.seq
 (.reg true [⟨(some 52), .mv (.t 8), [], none⟩,
 ⟨(some 53), .mv (.t 10), [], none⟩,
 ⟨(some 54), .faddr 0 (.t 11), [], none⟩,
 ⟨(some 55), .load false 1 (.t 54), [2], none⟩,
 ⟨(some 56), .mv (.t 7), [], none⟩,
 ⟨(some 57), .bin .quo (.t 55) (.t 56), [3, 4], none⟩,
 ⟨(some 58), .mv (.t 7), [], none⟩,
 ⟨(some 59), .bin .mul (.t 57) (.t 58), [5, 6], none⟩,
 ⟨(some 60), .faddr 1 (.t 11), [], none⟩,
 ⟨(some 61), .load false 1 (.t 60), [8], none⟩,
 ⟨(some 62), .mv (.t 7), [], none⟩,
 ⟨(some 63), .bin .quo (.t 61) (.t 62), [9, 10], none⟩,
 ⟨(some 64), .mv (.t 7), [], none⟩,
 ⟨(some 65), .bin .mul (.t 63) (.t 64), [11, 12], none⟩,
 ⟨(some 66), .faddr 2 (.t 11), [], none⟩,
 ⟨(some 67), .load false 1 (.t 66), [14], none⟩,
 ⟨(some 68), .mv (.t 7), [], none⟩,
 ⟨(some 69), .bin .quo (.t 67) (.t 68), [15, 16], none⟩,
 ⟨(some 70), .mv (.t 7), [], none⟩,
 ⟨(some 71), .bin .mul (.t 69) (.t 70), [17, 18], none⟩,
 ⟨(some 72), .call 7 [(.t 59), (.t 65), (.t 71)], [7, 13, 19], none⟩,
 ⟨(some 73), .ixsl 3 (.t 52) (.t 53), [0, 1, 0, 1, 2, 3, 4, 5, 6, 7, 8, 9, 10, 11, 12, 13, 14, 15, 16, 17, 18, 19, 20], none⟩,
 ⟨none, .store 3 (.t 73) (.t 72), [21, 20, 20, 0, 1, 2, 3, 4, 5, 6, 7, 8, 9, 10, 11, 12, 13, 14, 15, 16, 17, 18, 19, 20], none⟩])
 (.seq
 (.reg true [⟨(some 75), .load true 13 (.t 6), [], none⟩,
 ⟨(some 76), .mv (.t 8), [], none⟩,
 ⟨(some 77), .mv (.t 10), [], none⟩,
 ⟨(some 78), .ixsl 3 (.t 76) (.t 77), [1, 2], none⟩,
 ⟨(some 79), .load true 3 (.t 78), [3], none⟩,
 ⟨(some 80), .call 8 [(.t 75), (.t 79)], [0, 4], none⟩,
 ⟨(some 74), .mv (.t 80), [5], none⟩,
 ⟨(some 81), .ext (.t 74) 0, [6], none⟩,
 ⟨(some 82), .ext (.t 74) 1, [6], none⟩,
 ⟨(some 12), .alloc [.v (.int .i64 0), .v (.int .i64 0), .v (.int .i64 0)], [], none⟩,
 ⟨none, .store 3 (.t 12) (.t 81), [9, 7, 5, 0, 1, 2, 3, 4, 5, 6, 7, 9], none⟩,
 ⟨(some 13), .mv (.t 82), [8, 10, 0, 1, 2, 3, 4, 5, 6, 7, 8, 9, 10], none⟩])
 (.seq
 (.seq
 (.reg false [⟨(some 83), .mv (.t 13), [], none⟩,
 ⟨(some 84), .un .not (.t 83), [0], none⟩])
 (.cond (.t 84)
 (.seq
 (.reg false [⟨(some 4), .mv (.k false [.v (.bool false)]), [], none⟩])
 (.ret))
 (.skip)))
 (.reg false [⟨(some 85), .mv (.t 9), [], none⟩,
 ⟨(some 86), .load true 3 (.t 12), [], none⟩,
 ⟨(some 87), .bslice 3 [(.t 86)], [1], none⟩,
 ⟨(some 88), .app 3 24 (.t 85) (.t 87), [0, 2], none⟩,
 ⟨(some 9), .mv (.t 88), [3, 3, 0, 1, 2, 3], none⟩]))))))
 (.reg false [⟨(some 89), .bin .add (.t 47) (.k false [.v (.int .i64 1)]), [], none⟩,
 ⟨(some 47), .mv (.t 89), [0], none⟩])))))))
 (.seq
 (.seq
 (.reg false [⟨(some 90), .mv (.t 8), [], none⟩,
 ⟨(some 91), .len (.t 90), [0], none⟩,
 ⟨(some 92), .mv (.k false [.v (.int .i64 0)]), [], none⟩])
 (.block 2 (.loop (.seq
 (.reg false [⟨(some 93), .bin .lss (.t 92) (.t 91), [], none⟩])
 (.seq
 (.cond (.t 93)
 (.skip)
 (.exit 2))
 (.seq
 (.block 3 (.seq
 (.reg false [⟨(some 94), .mv (.t 92), [], none⟩,
 ⟨(some 14), .mv (.t 94), [0, 0], none⟩])
 (.seq
 (.reg true [⟨(some 95), .mv (.t 8), [], none⟩,
 ⟨(some 96), .mv (.t 14), [], none⟩,
 ⟨(some 97), .ixsl 3 (.t 95) (.t 96), [0, 1], none⟩,
 ⟨(some 98), .load true 3 (.t 97), [2], none⟩,
 ⟨(some 99), .mv (.t 8), [], none⟩,
 ⟨(some 100), .ixsl 3 (.t 99) (.k false [.v (.int .i64 0)]), [4], none⟩,
 ⟨(some 101), .load true 3 (.t 100), [5], none⟩,
 ⟨(some 102), .call 9 [(.t 98), (.t 101)], [3, 6], none⟩,
 ⟨(some 103), .mv (.t 9), [], none⟩,
 ⟨(some 104), .mv (.t 14), [], none⟩,
 ⟨(some 105), .ixsl 3 (.t 103) (.t 104), [8, 9], none⟩,
 ⟨(some 106), .load true 3 (.t 105), [10], none⟩,
 ⟨(some 107), .mv (.t 9), [], none⟩,
 ⟨(some 108), .ixsl 3 (.t 107) (.k false [.v (.int .i64 0)]), [12], none⟩,
 ⟨(some 109), .load true 3 (.t 108), [13], none⟩,
 ⟨(some 110), .call 9 [(.t 106), (.t 109)], [11, 14, 7], none⟩,
 ⟨(some 15), .alloc [.v (.int .i64 0), .v (.int .i64 0), .v (.int .i64 0)], [], none⟩,
 ⟨(some 16), .alloc [.v (.int .i64 0), .v (.int .i64 0), .v (.int .i64 0)], [], none⟩,
 ⟨none, .store 3 (.t 15) (.t 102), [16, 7, 15, 0, 1, 2, 3, 4, 5, 6, 7, 16, 17], none⟩,
 ⟨none, .store 3 (.t 16) (.t 110), [17, 15, 18, 0, 1, 2, 3, 4, 5, 6, 7, 8, 9, 10, 11, 12, 13, 14, 15, 16, 17, 18], none⟩])
 (.seq
 (.reg true [⟨(some 111), .load true 3 (.t 15), [], none⟩,
 ⟨(some 112), .load true 3 (.t 15), [], none⟩,
 ⟨(some 113), .call 10 [(.t 111), (.t 112)], [0, 1], none⟩,
 ⟨(some 114), .load true 3 (.t 16), [], none⟩,
 ⟨(some 115), .load true 3 (.t 16), [], none⟩,
 ⟨(some 116), .call 10 [(.t 114), (.t 115)], [3, 4, 2], none⟩,
 ⟨(some 117), .bin .neq (.t 113) (.t 116), [2, 5], none⟩])
 (.cond (.t 117)
 (.seq
 (.reg false [⟨(some 4), .mv (.k false [.v (.bool false)]), [], none⟩])
 (.ret))
 (.skip))))))
 (.reg false [⟨(some 118), .bin .add (.t 92) (.k false [.v (.int .i64 1)]), [], none⟩,
 ⟨(some 92), .mv (.t 118), [0], none⟩])))))))
 (.seq
 (.reg false [⟨(some 120), .mv (.t 8), [], none⟩,
 ⟨(some 121), .call 11 [(.t 120)], [0], none⟩,
 ⟨(some 119), .mv (.t 121), [1], none⟩,
 ⟨(some 122), .ext (.t 119) 0, [2], none⟩,
 ⟨(some 123), .ext (.t 119) 1, [2], none⟩,
 ⟨(some 17), .mv (.t 122), [3, 1, 0, 1, 2, 3], none⟩,
 ⟨(some 18), .mv (.t 123), [4, 5, 0, 1, 2, 3, 4, 5], none⟩])
 (.seq
 (.reg false [⟨(some 125), .mv (.t 9), [], none⟩,
 ⟨(some 126), .call 11 [(.t 125)], [0], none⟩,
 ⟨(some 124), .mv (.t 126), [1], none⟩,
 ⟨(some 127), .ext (.t 124) 0, [2], none⟩,
 ⟨(some 128), .ext (.t 124) 1, [2], none⟩,
 ⟨(some 19), .mv (.t 127), [3, 1, 0, 1, 2, 3], none⟩,
 ⟨(some 20), .mv (.t 128), [4, 5, 0, 1, 2, 3, 4, 5], none⟩])
 (.seq
 (.seq
 (.reg false [⟨(some 129), .mv (.t 18), [], none⟩,
 ⟨(some 130), .mv (.t 20), [], none⟩,
 ⟨(some 131), .bin .neq (.t 129) (.t 130), [0, 1], none⟩,
 ⟨(some 132), .mv (.t 131), [2], none⟩,
 ⟨(some 133), .mv (.t 17), [3], (some (132, false))⟩,
 ⟨(some 134), .len (.t 133), [4, 3], (some (132, false))⟩,
 ⟨(some 135), .mv (.t 19), [3], (some (132, false))⟩,
 ⟨(some 136), .len (.t 135), [6, 3], (some (132, false))⟩,
 ⟨(some 137), .bin .neq (.t 134) (.t 136), [5, 7, 3], (some (132, false))⟩,
 ⟨(some 138), .pick (.t 132) (.k false [.v (.bool true)]) (.t 137), [3, 8], none⟩])
 (.cond (.t 138)
 (.seq
 (.reg false [⟨(some 4), .mv (.k false [.v (.bool false)]), [], none⟩])
 (.ret))
 (.skip)))
 (.seq
 (.seq
 (.reg false [⟨(some 139), .mv (.t 17), [], none⟩,
 ⟨(some 140), .len (.t 139), [0], none⟩,
 ⟨(some 141), .mv (.k false [.v (.int .i64 0)]), [], none⟩])
 (.block 4 (.loop (.seq
 (.reg false [⟨(some 142), .bin .lss (.t 141) (.t 140), [], none⟩])
 (.seq
 (.cond (.t 142)
 (.skip)
 (.exit 4))
 (.seq
 (.block 5 (.seq
 (.reg false [⟨(some 143), .ixsl 4 (.t 139) (.t 141), [], none⟩,
 ⟨(some 144), .load true 4 (.t 143), [0], none⟩,
 ⟨(some 22), .alloc [.v (.int .i64 0), .v (.int .i64 0), .v (.int .i64 0), .v (.int .i64 0)], [], none⟩,
 ⟨none, .store 4 (.t 22) (.t 144), [2, 1, 0, 1, 2], none⟩])
 (.seq
 (.reg false [⟨(some 146), .load true 13 (.t 6), [], none⟩,
 ⟨(some 147), .load true 4 (.t 22), [], none⟩,
 ⟨(some 148), .call 12 [(.t 146), (.t 147)], [0, 1], none⟩,
 ⟨(some 145), .mv (.t 148), [2], none⟩,
 ⟨(some 149), .ext (.t 145) 0, [3], none⟩,
 ⟨(some 150), .ext (.t 145) 1, [3], none⟩,
 ⟨(some 23), .alloc [.v (.int .i64 0), .v (.int .i64 0), .v (.int .i64 0), .v (.int .i64 0)], [], none⟩,
 ⟨none, .store 4 (.t 23) (.t 149), [6, 4, 2, 0, 1, 2, 3, 4, 6], none⟩,
 ⟨(some 24), .mv (.t 150), [5, 7, 0, 1, 2, 3, 4, 5, 6, 7], none⟩])
 (.seq
 (.reg false [⟨(some 25), .mv (.k false [.v (.bool false)]), [], none⟩])
 (.seq
 (.seq
 (.reg false [⟨(some 151), .mv (.t 19), [], none⟩,
 ⟨(some 152), .len (.t 151), [0], none⟩,
 ⟨(some 153), .mv (.k false [.v (.int .i64 0)]), [], none⟩])
 (.block 6 (.loop (.seq
 (.reg false [⟨(some 154), .bin .lss (.t 153) (.t 152), [], none⟩])
 (.seq
 (.cond (.t 154)
 (.skip)
 (.exit 6))
 (.seq
 (.block 7 (.seq
 (.reg false [⟨(some 155), .ixsl 4 (.t 151) (.t 153), [], none⟩,
 ⟨(some 156), .load true 4 (.t 155), [0], none⟩,
 ⟨(some 27), .alloc [.v (.int .i64 0), .v (.int .i64 0), .v (.int .i64 0), .v (.int .i64 0)], [], none⟩,
 ⟨none, .store 4 (.t 27) (.t 156), [2, 1, 0, 1, 2], none⟩])
 (.reg false [⟨(some 157), .mv (.t 25), [], none⟩,
 ⟨(some 158), .mv (.t 157), [0], none⟩,
 ⟨(some 159), .load true 4 (.t 23), [1], (some (158, false))⟩,
 ⟨(some 160), .load true 4 (.t 27), [1], (some (158, false))⟩,
 ⟨(some 161), .eqa false [some .i64, some .i64, some .i64, some .i64] (.t 159) (.t 160), [2, 3, 1], (some (158, false))⟩,
 ⟨(some 162), .pick (.t 158) (.k false [.v (.bool true)]) (.t 161), [1, 4], none⟩,
 ⟨(some 25), .mv (.t 162), [5, 1, 0, 1, 2, 3, 4, 5], none⟩])))
 (.reg false [⟨(some 163), .bin .add (.t 153) (.k false [.v (.int .i64 1)]), [], none⟩,
 ⟨(some 153), .mv (.t 163), [0], none⟩])))))))
 (.seq
 (.reg false [⟨(some 164), .mv (.t 24), [], none⟩,
 ⟨(some 165), .un .not (.t 164), [0], none⟩,
 ⟨(some 166), .mv (.t 165), [1], none⟩,
 ⟨(some 167), .mv (.t 25), [2], (some (166, false))⟩,
 ⟨(some 168), .un .not (.t 167), [3, 2], (some (166, false))⟩,
 ⟨(some 169), .pick (.t 166) (.k false [.v (.bool true)]) (.t 168), [2, 4], none⟩])
 (.cond (.t 169)
 (.seq
 (.reg false [⟨(some 4), .mv (.k false [.v (.bool false)]), [], none⟩])
 (.ret))
 (.skip))))))))
 (.reg false [⟨(some 170), .bin .add (.t 141) (.k false [.v (.int .i64 1)]), [], none⟩,
 ⟨(some 141), .mv (.t 170), [0], none⟩])))))))
 (.seq
 (.reg false [⟨(some 172), .mv (.t 8), [], none⟩,
 ⟨(some 173), .call 13 [(.t 172)], [0], none⟩,
 ⟨(some 171), .mv (.t 173), [1], none⟩,
 ⟨(some 174), .ext (.t 171) 0, [2], none⟩,
 ⟨(some 175), .ext (.t 171) 1, [2], none⟩,
 ⟨(some 28), .mv (.t 174), [3, 1, 0, 1, 2, 3], none⟩,
 ⟨(some 29), .mv (.t 175), [4, 5, 0, 1, 2, 3, 4, 5], none⟩])
 (.seq
 (.reg false [⟨(some 177), .mv (.t 9), [], none⟩,
 ⟨(some 178), .call 13 [(.t 177)], [0], none⟩,
 ⟨(some 176), .mv (.t 178), [1], none⟩,
 ⟨(some 179), .ext (.t 176) 0, [2], none⟩,
 ⟨(some 180), .ext (.t 176) 1, [2], none⟩,
 ⟨(some 30), .mv (.t 179), [3, 1, 0, 1, 2, 3], none⟩,
 ⟨(some 31), .mv (.t 180), [4, 5, 0, 1, 2, 3, 4, 5], none⟩])
 (.seq
 (.seq
 (.reg false [⟨(some 181), .mv (.t 29), [], none⟩,
 ⟨(some 182), .mv (.t 18), [], none⟩,
 ⟨(some 183), .bin .neq (.t 181) (.t 182), [0, 1], none⟩,
 ⟨(some 184), .mv (.t 183), [2], none⟩,
 ⟨(some 185), .mv (.t 31), [3], (some (184, false))⟩,
 ⟨(some 186), .mv (.t 18), [3], (some (184, false))⟩,
 ⟨(some 187), .bin .neq (.t 185) (.t 186), [4, 5, 3], (some (184, false))⟩,
 ⟨(some 188), .pick (.t 184) (.k false [.v (.bool true)]) (.t 187), [3, 6], none⟩,
 ⟨(some 189), .mv (.t 188), [7, 3], none⟩,
 ⟨(some 190), .mv (.t 28), [8], (some (189, false))⟩,
 ⟨(some 191), .len (.t 190), [9, 8], (some (189, false))⟩,
 ⟨(some 192), .mv (.t 30), [8], (some (189, false))⟩,
 ⟨(some 193), .len (.t 192), [11, 8], (some (189, false))⟩,
 ⟨(some 194), .bin .neq (.t 191) (.t 193), [10, 12, 8], (some (189, false))⟩,
 ⟨(some 195), .pick (.t 189) (.k false [.v (.bool true)]) (.t 194), [8, 13], none⟩])
 (.cond (.t 195)
 (.seq
 (.reg false [⟨(some 4), .mv (.k false [.v (.bool false)]), [], none⟩])
 (.ret))
 (.skip)))
 (.seq
 (.reg false [⟨(some 32), .mv (.k false [.v (.slice none 0 0)]), [], none⟩])
 (.seq
 (.seq
 (.reg false [⟨(some 196), .mv (.t 28), [], none⟩,
 ⟨(some 197), .len (.t 196), [0], none⟩,
 ⟨(some 198), .mv (.k false [.v (.int .i64 0)]), [], none⟩])
 (.block 8 (.loop (.seq
 (.reg false [⟨(some 199), .bin .lss (.t 198) (.t 197), [], none⟩])
 (.seq
 (.cond (.t 199)
 (.skip)
 (.exit 8))
 (.seq
 (.block 9 (.seq
 (.reg false [⟨(some 200), .ixsl 3 (.t 196) (.t 198), [], none⟩,
 ⟨(some 201), .load true 3 (.t 200), [0], none⟩,
 ⟨(some 34), .alloc [.v (.int .i64 0), .v (.int .i64 0), .v (.int .i64 0)], [], none⟩,
 ⟨none, .store 3 (.t 34) (.t 201), [2, 1, 0, 1, 2], none⟩])
 (.seq
 (.reg false [⟨(some 203), .load true 13 (.t 6), [], none⟩,
 ⟨(some 204), .load true 3 (.t 34), [], none⟩,
 ⟨(some 205), .call 8 [(.t 203), (.t 204)], [0, 1], none⟩,
 ⟨(some 202), .mv (.t 205), [2], none⟩,
 ⟨(some 206), .ext (.t 202) 0, [3], none⟩,
 ⟨(some 207), .ext (.t 202) 1, [3], none⟩,
 ⟨(some 35), .alloc [.v (.int .i64 0), .v (.int .i64 0), .v (.int .i64 0)], [], none⟩,
 ⟨none, .store 3 (.t 35) (.t 206), [6, 4, 2, 0, 1, 2, 3, 4, 6], none⟩,
 ⟨(some 36), .mv (.t 207), [5, 7, 0, 1, 2, 3, 4, 5, 6, 7], none⟩])
 (.reg false [⟨(some 208), .mv (.t 32), [], none⟩,
 ⟨(some 209), .load true 3 (.t 35), [], none⟩,
 ⟨(some 210), .call 14 [(.t 208), (.t 209)], [0, 1], none⟩,
 ⟨(some 32), .mv (.t 210), [2, 2, 0, 1, 2], none⟩]))))
 (.reg false [⟨(some 211), .bin .add (.t 198) (.k false [.v (.int .i64 1)]), [], none⟩,
 ⟨(some 198), .mv (.t 211), [0], none⟩])))))))
 (.seq
 (.reg false [⟨(some 212), .mv (.t 5), [], none⟩,
 ⟨(some 213), .mv (.t 212), [0], none⟩,
 ⟨(some 214), .mv (.t 30), [1], (some (213, true))⟩,
 ⟨(some 215), .mv (.t 32), [1], (some (213, true))⟩,
 ⟨(some 216), .call 15 [(.t 214), (.t 215)], [2, 3, 1, 1], (some (213, true))⟩,
 ⟨(some 217), .pick (.t 213) (.t 216) (.k false [.v (.bool false)]), [1, 4], none⟩,
 ⟨(some 4), .mv (.t 217), [5, 4, 0, 1, 2, 3, 4, 5], none⟩])
 (.ret))))))))))))))))))
theorem A3_comp : Tryz.f3.body.bind (comp Tryz.prog Tryz.f3.ntmps []) = some A3 := by kernel_rfl
/- collet/colletlaw11.sanity -/
def A4 : ACode :=
 .seq
 (.reg false [⟨(some 0), .mv (.k false [.v (.bool false)]), [], none⟩])
 (.seq
 (.reg false [⟨(some 18), .build [.v (.int .i64 0), .v (.int .i64 0), .v (.int .i64 0)] [(0, 1, (.k false [.v (.int .i64 0)])), (1, 1, (.k false [.v (.int .i64 (-1))])), (2, 1, (.k false [.v (.int .i64 0)]))], [], none⟩,
 ⟨(some 19), .build [.v (.int .i64 0), .v (.int .i64 0), .v (.int .i64 0)] [(0, 1, (.k false [.v (.int .i64 1)])), (1, 1, (.k false [.v (.int .i64 0)])), (2, 1, (.k false [.v (.int .i64 0)]))], [], none⟩,
 ⟨(some 20), .build [.v (.int .i64 0), .v (.int .i64 0), .v (.int .i64 0)] [(0, 1, (.k false [.v (.int .i64 0)])), (1, 1, (.k false [.v (.int .i64 0)])), (2, 1, (.k false [.v (.int .i64 1)]))], [], none⟩,
 ⟨(some 21), .build (List.replicate 9 (.v (.int .i64 0))) [(0, 3, (.t 18)), (3, 3, (.t 19)), (6, 3, (.t 20))], [0, 1, 2], none⟩,
 ⟨(some 1), .alloc (List.replicate 9 (.v (.int .i64 0))), [], none⟩,
 ⟨none, .store 9 (.t 1) (.t 21), [4, 3, 0, 1, 2, 3, 4], none⟩])
 (.seq
 (.reg true [⟨(some 22), .load true 9 (.t 1), [], none⟩,
 ⟨(some 23), .call 7 [(.k false [.v (.int .i64 1)]), (.k false [.v (.int .i64 2)]), (.k false [.v (.int .i64 3)])], [], none⟩,
 ⟨(some 24), .call 16 [(.t 22), (.k false [.v (.int .i64 1)]), (.t 23)], [0, 1, 1], none⟩,
 ⟨(some 2), .alloc (List.replicate 13 (.v (.int .i64 0))), [], none⟩,
 ⟨none, .store 13 (.t 2) (.t 24), [3, 2, 2, 0, 1, 2, 3], none⟩])
 (.seq
 (.reg false [⟨(some 25), .build [.v (.int .i64 0), .v (.int .i64 0), .v (.int .i64 0)] [(0, 1, (.k false [.v (.int .i64 3)])), (1, 1, (.k false [.v (.int .i64 (-4))])), (2, 1, (.k false [.v (.int .i64 0)]))], [], none⟩,
 ⟨(some 26), .build [.v (.int .i64 0), .v (.int .i64 0), .v (.int .i64 0)] [(0, 1, (.k false [.v (.int .i64 4)])), (1, 1, (.k false [.v (.int .i64 3)])), (2, 1, (.k false [.v (.int .i64 0)]))], [], none⟩,
 ⟨(some 27), .build [.v (.int .i64 0), .v (.int .i64 0), .v (.int .i64 0)] [(0, 1, (.k false [.v (.int .i64 0)])), (1, 1, (.k false [.v (.int .i64 0)])), (2, 1, (.k false [.v (.int .i64 5)]))], [], none⟩,
 ⟨(some 28), .build (List.replicate 9 (.v (.int .i64 0))) [(0, 3, (.t 25)), (3, 3, (.t 26)), (6, 3, (.t 27))], [0, 1, 2], none⟩,
 ⟨(some 29), .build [.v (.int .i64 0), .v (.int .i64 0), .v (.int .i64 0)] [], [], none⟩,
 ⟨(some 30), .call 16 [(.t 28), (.k false [.v (.int .i64 5)]), (.t 29)], [3, 4], none⟩,
 ⟨(some 3), .alloc (List.replicate 13 (.v (.int .i64 0))), [], none⟩,
 ⟨none, .store 13 (.t 3) (.t 30), [6, 5, 5, 0, 1, 2, 3, 4, 5, 6], none⟩])
 (.seq
 (.reg false [⟨(some 31), .faddr 0 (.t 3), [], none⟩,
 ⟨(some 32), .load true 10 (.t 31), [0], none⟩,
 ⟨(some 33), .call 17 [(.t 32)], [1], none⟩,
 ⟨(some 34), .mv (.t 33), [2, 2], none⟩,
 ⟨(some 35), .load true 9 (.t 1), [3], (some (34, true))⟩,
 ⟨(some 36), .build (List.replicate 10 (.v (.int .i64 0))) [(0, 9, (.t 35)), (9, 1, (.k false [.v (.int .i64 2)]))], [4, 3], (some (34, true))⟩,
 ⟨(some 37), .call 17 [(.t 36)], [5, 3, 3], (some (34, true))⟩,
 ⟨(some 38), .un .not (.t 37), [6, 3], (some (34, true))⟩,
 ⟨(some 39), .pick (.t 34) (.t 38) (.k false [.v (.bool false)]), [3, 7], none⟩,
 ⟨(some 40), .mv (.t 39), [8, 6], none⟩,
 ⟨(some 41), .build [.v (.int .i64 0), .v (.int .i64 0), .v (.int .i64 0)] [(0, 1, (.k false [.v (.int .i64 0)])), (1, 1, (.k false [.v (.int .i64 (-2))])), (2, 1, (.k false [.v (.int .i64 0)]))], [9], (some (40, true))⟩,
 ⟨(some 42), .build [.v (.int .i64 0), .v (.int .i64 0), .v (.int .i64 0)] [(0, 1, (.k false [.v (.int .i64 2)])), (1, 1, (.k false [.v (.int .i64 0)])), (2, 1, (.k false [.v (.int .i64 0)]))], [9], (some (40, true))⟩,
 ⟨(some 43), .build [.v (.int .i64 0), .v (.int .i64 0), .v (.int .i64 0)] [(0, 1, (.k false [.v (.int .i64 0)])), (1, 1, (.k false [.v (.int .i64 0)])), (2, 1, (.k false [.v (.int .i64 2)]))], [9], (some (40, true))⟩,
 ⟨(some 44), .build (List.replicate 9 (.v (.int .i64 0))) [(0, 3, (.t 41)), (3, 3, (.t 42)), (6, 3, (.t 43))], [10, 11, 12, 9], (some (40, true))⟩,
 ⟨(some 45), .build (List.replicate 10 (.v (.int .i64 0))) [(0, 9, (.t 44)), (9, 1, (.k false [.v (.int .i64 2)]))], [13, 9], (some (40, true))⟩,
 ⟨(some 46), .call 17 [(.t 45)], [14, 9, 9], (some (40, true))⟩,
 ⟨(some 47), .un .not (.t 46), [15, 9], (some (40, true))⟩,
 ⟨(some 48), .pick (.t 40) (.t 47) (.k false [.v (.bool false)]), [9, 16], none⟩,
 ⟨(some 49), .mv (.t 48), [17, 15], none⟩,
 ⟨(some 50), .build (List.replicate 10 (.v (.int .i64 0))) [], [18], (some (49, true))⟩,
 ⟨(some 51), .call 17 [(.t 50)], [19, 18, 18], (some (49, true))⟩,
 ⟨(some 52), .un .not (.t 51), [20, 18], (some (49, true))⟩,
 ⟨(some 53), .pick (.t 49) (.t 52) (.k false [.v (.bool false)]), [18, 21], none⟩,
 ⟨(some 4), .mv (.t 53), [22, 20, 0, 1, 2, 3, 4, 5, 6, 7, 8, 9, 10, 11, 12, 13, 14, 15, 16, 17, 18, 19, 20, 21, 22], none⟩])
 (.seq
 (.reg false [⟨(some 54), .call 18 [], [], none⟩,
 ⟨(some 5), .mv (.t 54), [0, 0, 0], none⟩])
 (.seq
 (.reg false [⟨(some 56), .load true 9 (.t 1), [], none⟩,
 ⟨(some 57), .build [.v (.int .i64 0), .v (.int .i64 0), .v (.int .i64 0)] [], [], none⟩,
 ⟨(some 58), .call 16 [(.t 56), (.k false [.v (.int .i64 1)]), (.t 57)], [0, 1], none⟩,
 ⟨(some 59), .call 7 [(.k false [.v (.int .i64 25)]), (.k false [.v (.int .i64 0)]), (.k false [.v (.int .i64 0)])], [2], none⟩,
 ⟨(some 60), .call 8 [(.t 58), (.t 59)], [2, 3, 3], none⟩,
 ⟨(some 55), .mv (.t 60), [4], none⟩,
 ⟨(some 61), .ext (.t 55) 0, [5], none⟩,
 ⟨(some 62), .ext (.t 55) 1, [5], none⟩,
 ⟨(some 6), .alloc [.v (.int .i64 0), .v (.int .i64 0), .v (.int .i64 0)], [], none⟩,
 ⟨none, .store 3 (.t 6) (.t 61), [8, 6, 4, 0, 1, 2, 3, 4, 5, 6, 8], none⟩,
 ⟨(some 7), .mv (.t 62), [7, 9, 0, 1, 2, 3, 4, 5, 6, 7, 8, 9], none⟩])
 (.seq
 (.reg true [⟨(some 64), .load true 13 (.t 3), [], none⟩,
 ⟨(some 65), .call 7 [(.k false [.v (.int .i64 5)]), (.k false [.v (.int .i64 9)]), (.k false [.v (.int .i64 2)])], [], none⟩,
 ⟨(some 66), .call 8 [(.t 64), (.t 65)], [0, 1, 1], none⟩,
 ⟨(some 63), .mv (.t 66), [2], none⟩,
 ⟨(some 67), .ext (.t 63) 0, [3], none⟩,
 ⟨(some 68), .ext (.t 63) 1, [3], none⟩,
 ⟨(some 8), .alloc [.v (.int .i64 0), .v (.int .i64 0), .v (.int .i64 0)], [], none⟩,
 ⟨none, .store 3 (.t 8) (.t 67), [6, 4, 2, 0, 1, 2, 3, 4, 6], none⟩,
 ⟨(some 9), .mv (.t 68), [5, 7, 0, 1, 2, 3, 4, 5, 6, 7], none⟩])
 (.seq
 (.reg true [⟨(some 69), .mv (.t 5), [], none⟩,
 ⟨(some 70), .len (.t 69), [0], none⟩,
 ⟨(some 71), .bin .eql (.t 70) (.k false [.v (.int .i64 24)]), [1], none⟩,
 ⟨(some 72), .mv (.t 71), [2], none⟩,
 ⟨(some 73), .mv (.t 5), [3], (some (72, true))⟩,
 ⟨(some 74), .ixsl 10 (.t 73) (.k false [.v (.int .i64 0)]), [4, 3], (some (72, true))⟩,
 ⟨(some 75), .load true 10 (.t 74), [5, 3], (some (72, true))⟩,
 ⟨(some 76), .build [.v (.int .i64 0), .v (.int .i64 0), .v (.int .i64 0)] [(0, 1, (.k false [.v (.int .i64 (-1))])), (1, 1, (.k false [.v (.int .i64 0)])), (2, 1, (.k false [.v (.int .i64 0)]))], [3], (some (72, true))⟩,
 ⟨(some 77), .build [.v (.int .i64 0), .v (.int .i64 0), .v (.int .i64 0)] [(0, 1, (.k false [.v (.int .i64 0)])), (1, 1, (.k false [.v (.int .i64 (-1))])), (2, 1, (.k false [.v (.int .i64 0)]))], [3], (some (72, true))⟩,
 ⟨(some 78), .build [.v (.int .i64 0), .v (.int .i64 0), .v (.int .i64 0)] [(0, 1, (.k false [.v (.int .i64 0)])), (1, 1, (.k false [.v (.int .i64 0)])), (2, 1, (.k false [.v (.int .i64 1)]))], [3], (some (72, true))⟩,
 ⟨(some 79), .build (List.replicate 9 (.v (.int .i64 0))) [(0, 3, (.t 76)), (3, 3, (.t 77)), (6, 3, (.t 78))], [7, 8, 9, 3], (some (72, true))⟩,
 ⟨(some 80), .build (List.replicate 10 (.v (.int .i64 0))) [(0, 9, (.t 79)), (9, 1, (.k false [.v (.int .i64 1)]))], [10, 3], (some (72, true))⟩,
 ⟨(some 81), .eqa false [some .i64, some .i64, some .i64, some .i64, some .i64, some .i64, some .i64, some .i64, some .i64, some .i64] (.t 75) (.t 80), [6, 11, 3], (some (72, true))⟩,
 ⟨(some 82), .pick (.t 72) (.t 81) (.k false [.v (.bool false)]), [3, 12], none⟩,
 ⟨(some 83), .mv (.t 82), [13, 3], none⟩,
 ⟨(some 84), .load true 13 (.t 2), [14], (some (83, true))⟩,
 ⟨(some 85), .call 7 [(.k false [.v (.int .i64 4)]), (.k false [.v (.int .i64 5)]), (.k false [.v (.int .i64 6)])], [14, 14], (some (83, true))⟩,
 ⟨(some 86), .call 7 [(.k false [.v (.int .i64 (-4))]), (.k false [.v (.int .i64 6)]), (.k false [.v (.int .i64 9)])], [16, 14], (some (83, true))⟩,
 ⟨(some 87), .call 19 [(.t 84), (.t 85), (.t 86)], [15, 16, 17, 17, 14], (some (83, true))⟩,
 ⟨(some 88), .pick (.t 83) (.t 87) (.k false [.v (.bool false)]), [14, 18], none⟩,
 ⟨(some 89), .mv (.t 88), [19, 18], none⟩,
 ⟨(some 90), .mv (.t 7), [20], (some (89, true))⟩,
 ⟨(some 91), .un .not (.t 90), [21, 20], (some (89, true))⟩,
 ⟨(some 92), .pick (.t 89) (.t 91) (.k false [.v (.bool false)]), [20, 22], none⟩,
 ⟨(some 93), .mv (.t 92), [23, 20], none⟩,
 ⟨(some 94), .load true 13 (.t 3), [24], (some (93, true))⟩,
 ⟨(some 95), .call 7 [(.k false [.v (.int .i64 5)]), (.k false [.v (.int .i64 10)]), (.k false [.v (.int .i64 2)])], [24, 24], (some (93, true))⟩,
 ⟨(some 96), .call 7 [(.k false [.v (.int .i64 (-5))]), (.k false [.v (.int .i64 10)]), (.k false [.v (.int .i64 2)])], [26, 24], (some (93, true))⟩,
 ⟨(some 97), .call 19 [(.t 94), (.t 95), (.t 96)], [25, 26, 27, 27, 24], (some (93, true))⟩,
 ⟨(some 98), .pick (.t 93) (.t 97) (.k false [.v (.bool false)]), [24, 28], none⟩,
 ⟨(some 99), .mv (.t 98), [29, 28], none⟩,
 ⟨(some 100), .mv (.t 9), [30], (some (99, true))⟩,
 ⟨(some 101), .un .not (.t 100), [31, 30], (some (99, true))⟩,
 ⟨(some 102), .pick (.t 99) (.t 101) (.k false [.v (.bool false)]), [30, 32], none⟩,
 ⟨(some 10), .mv (.t 102), [33, 30, 0, 1, 2, 3, 4, 5, 6, 7, 8, 9, 10, 11, 12, 13, 14, 15, 16, 17, 18, 19, 20, 21, 22, 23, 24, 25, 26, 27, 28, 29, 30, 31, 32, 33], none⟩])
 (.seq
 (.reg true [⟨(some 104), .load true 13 (.t 3), [], none⟩,
 ⟨(some 105), .call 7 [(.k false [.v (.int .i64 3)]), (.k false [.v (.int .i64 (-4))]), (.k false [.v (.int .i64 0)])], [], none⟩,
 ⟨(some 106), .build [.v (.int .i64 0), .v (.int .i64 0), .v (.int .i64 0), .v (.int .i64 0)] [(0, 3, (.t 105)), (3, 1, (.k false [.v (.int .i64 1)]))], [1], none⟩,
 ⟨(some 107), .call 12 [(.t 104), (.t 106)], [0, 2, 1], none⟩,
 ⟨(some 103), .mv (.t 107), [3], none⟩,
 ⟨(some 108), .ext (.t 103) 0, [4], none⟩,
 ⟨(some 109), .ext (.t 103) 1, [4], none⟩,
 ⟨(some 11), .alloc [.v (.int .i64 0), .v (.int .i64 0), .v (.int .i64 0), .v (.int .i64 0)], [], none⟩,
 ⟨none, .store 4 (.t 11) (.t 108), [7, 5, 3, 0, 1, 2, 3, 4, 5, 7], none⟩,
 ⟨(some 12), .mv (.t 109), [6, 8, 0, 1, 2, 3, 4, 5, 6, 7, 8], none⟩])
 (.seq
 (.reg true [⟨(some 110), .load true 13 (.t 2), [], none⟩,
 ⟨(some 111), .call 7 [(.k false [.v (.int .i64 1)]), (.k false [.v (.int .i64 0)]), (.k false [.v (.int .i64 0)])], [], none⟩,
 ⟨(some 112), .build [.v (.int .i64 0), .v (.int .i64 0), .v (.int .i64 0), .v (.int .i64 0)] [(0, 3, (.t 111)), (3, 1, (.k false [.v (.int .i64 4)]))], [1], none⟩,
 ⟨(some 113), .call 7 [(.k false [.v (.int .i64 0)]), (.k false [.v (.int .i64 1)]), (.k false [.v (.int .i64 0)])], [1], none⟩,
 ⟨(some 114), .build [.v (.int .i64 0), .v (.int .i64 0), .v (.int .i64 0), .v (.int .i64 0)] [(0, 3, (.t 113)), (3, 1, (.k false [.v (.int .i64 6)]))], [3], none⟩,
 ⟨(some 115), .call 20 [(.t 110), (.t 112), (.t 114)], [0, 2, 4, 3], none⟩,
 ⟨(some 116), .mv (.t 115), [5, 5], none⟩,
 ⟨(some 117), .load true 13 (.t 3), [6], (some (116, true))⟩,
 ⟨(some 118), .call 7 [(.k false [.v (.int .i64 1)]), (.k false [.v (.int .i64 0)]), (.k false [.v (.int .i64 0)])], [6, 6], (some (116, true))⟩,
 ⟨(some 119), .build [.v (.int .i64 0), .v (.int .i64 0), .v (.int .i64 0), .v (.int .i64 0)] [(0, 3, (.t 118)), (3, 1, (.k false [.v (.int .i64 4)]))], [8, 6], (some (116, true))⟩,
 ⟨(some 120), .call 7 [(.k false [.v (.int .i64 3)]), (.k false [.v (.int .i64 4)]), (.k false [.v (.int .i64 0)])], [8, 6], (some (116, true))⟩,
 ⟨(some 121), .build [.v (.int .i64 0), .v (.int .i64 0), .v (.int .i64 0), .v (.int .i64 0)] [(0, 3, (.t 120)), (3, 1, (.k false [.v (.int .i64 20)]))], [10, 6], (some (116, true))⟩,
 ⟨(some 122), .call 20 [(.t 117), (.t 119), (.t 121)], [7, 9, 11, 10, 6], (some (116, true))⟩,
 ⟨(some 123), .pick (.t 116) (.t 122) (.k false [.v (.bool false)]), [6, 12], none⟩,
 ⟨(some 124), .mv (.t 123), [13, 12], none⟩,
 ⟨(some 125), .load true 13 (.t 3), [14], (some (124, true))⟩,
 ⟨(some 126), .call 7 [(.k false [.v (.int .i64 1)]), (.k false [.v (.int .i64 2)]), (.k false [.v (.int .i64 0)])], [14, 14], (some (124, true))⟩,
 ⟨(some 127), .build [.v (.int .i64 0), .v (.int .i64 0), .v (.int .i64 0), .v (.int .i64 0)] [(0, 3, (.t 126)), (3, 1, (.k false [.v (.int .i64 1)]))], [16, 14], (some (124, true))⟩,
 ⟨(some 128), .call 7 [(.k false [.v (.int .i64 (-1))]), (.k false [.v (.int .i64 2)]), (.k false [.v (.int .i64 0)])], [16, 14], (some (124, true))⟩,
 ⟨(some 129), .build [.v (.int .i64 0), .v (.int .i64 0), .v (.int .i64 0), .v (.int .i64 0)] [(0, 3, (.t 128)), (3, 1, (.k false [.v (.int .i64 1)]))], [18, 14], (some (124, true))⟩,
 ⟨(some 130), .call 20 [(.t 125), (.t 127), (.t 129)], [15, 17, 19, 18, 14], (some (124, true))⟩,
 ⟨(some 131), .pick (.t 124) (.t 130) (.k false [.v (.bool false)]), [14, 20], none⟩,
 ⟨(some 132), .mv (.t 131), [21, 20], none⟩,
 ⟨(some 133), .load true 13 (.t 3), [22], (some (132, true))⟩,
 ⟨(some 134), .call 7 [(.k false [.v (.int .i64 2)]), (.k false [.v (.int .i64 0)]), (.k false [.v (.int .i64 1)])], [22, 22], (some (132, true))⟩,
 ⟨(some 135), .build [.v (.int .i64 0), .v (.int .i64 0), .v (.int .i64 0), .v (.int .i64 0)] [(0, 3, (.t 134)), (3, 1, (.k false [.v (.int .i64 3)]))], [24, 22], (some (132, true))⟩,
 ⟨(some 136), .call 7 [(.k false [.v (.int .i64 6)]), (.k false [.v (.int .i64 8)]), (.k false [.v (.int .i64 5)])], [24, 22], (some (132, true))⟩,
 ⟨(some 137), .build [.v (.int .i64 0), .v (.int .i64 0), .v (.int .i64 0), .v (.int .i64 0)] [(0, 3, (.t 136)), (3, 1, (.k false [.v (.int .i64 15)]))], [26, 22], (some (132, true))⟩,
 ⟨(some 138), .call 20 [(.t 133), (.t 135), (.t 137)], [23, 25, 27, 26, 22], (some (132, true))⟩,
 ⟨(some 139), .pick (.t 132) (.t 138) (.k false [.v (.bool false)]), [22, 28], none⟩,
 ⟨(some 140), .mv (.t 139), [29, 28], none⟩,
 ⟨(some 141), .load true 13 (.t 3), [30], (some (140, true))⟩,
 ⟨(some 142), .call 7 [(.k false [.v (.int .i64 3)]), (.k false [.v (.int .i64 (-4))]), (.k false [.v (.int .i64 0)])], [30, 30], (some (140, true))⟩,
 ⟨(some 143), .build [.v (.int .i64 0), .v (.int .i64 0), .v (.int .i64 0), .v (.int .i64 0)] [(0, 3, (.t 142)), (3, 1, (.k false [.v (.int .i64 5)]))], [32, 30], (some (140, true))⟩,
 ⟨(some 144), .call 7 [(.k false [.v (.int .i64 1)]), (.k false [.v (.int .i64 0)]), (.k false [.v (.int .i64 0)])], [32, 30], (some (140, true))⟩,
 ⟨(some 145), .build [.v (.int .i64 0), .v (.int .i64 0), .v (.int .i64 0), .v (.int .i64 0)] [(0, 3, (.t 144)), (3, 1, (.k false [.v (.int .i64 1)]))], [34, 30], (some (140, true))⟩,
 ⟨(some 146), .call 20 [(.t 141), (.t 143), (.t 145)], [31, 33, 35, 34, 30], (some (140, true))⟩,
 ⟨(some 147), .pick (.t 140) (.t 146) (.k false [.v (.bool false)]), [30, 36], none⟩,
 ⟨(some 148), .mv (.t 147), [37, 36], none⟩,
 ⟨(some 149), .mv (.t 12), [38], (some (148, true))⟩,
 ⟨(some 150), .un .not (.t 149), [39, 38], (some (148, true))⟩,
 ⟨(some 151), .pick (.t 148) (.t 150) (.k false [.v (.bool false)]), [38, 40], none⟩,
 ⟨(some 13), .mv (.t 151), [41, 38, 0, 1, 2, 3, 4, 5, 6, 7, 8, 9, 10, 11, 12, 13, 14, 15, 16, 17, 18, 19, 20, 21, 22, 23, 24, 25, 26, 27, 28, 29, 30, 31, 32, 33, 34, 35, 36, 37, 38, 39, 40, 41], none⟩])
 (.seq
 (.reg false [⟨(some 153), .load true 13 (.t 2), [], none⟩,
 ⟨(some 154), .call 21 [(.t 153)], [0], none⟩,
 ⟨(some 152), .mv (.t 154), [1], none⟩,
 ⟨(some 155), .ext (.t 152) 0, [2], none⟩,
 ⟨(some 156), .ext (.t 152) 1, [2], none⟩,
 ⟨(some 14), .alloc (List.replicate 13 (.v (.int .i64 0))), [], none⟩,
 ⟨none, .store 13 (.t 14) (.t 155), [5, 3, 1, 0, 1, 2, 3, 5], none⟩,
 ⟨(some 15), .mv (.t 156), [4, 6, 0, 1, 2, 3, 4, 5, 6], none⟩])
 (.seq
 (.reg false [⟨(some 158), .load true 13 (.t 3), [], none⟩,
 ⟨(some 159), .load true 13 (.t 3), [], none⟩,
 ⟨(some 160), .call 22 [(.t 158), (.t 159)], [0, 1], none⟩,
 ⟨(some 157), .mv (.t 160), [2], none⟩,
 ⟨(some 161), .ext (.t 157) 0, [3], none⟩,
 ⟨(some 162), .ext (.t 157) 1, [3], none⟩,
 ⟨(some 16), .alloc (List.replicate 13 (.v (.int .i64 0))), [], none⟩,
 ⟨none, .store 13 (.t 16) (.t 161), [6, 4, 2, 0, 1, 2, 3, 4, 6], none⟩,
 ⟨(some 17), .mv (.t 162), [5, 7, 0, 1, 2, 3, 4, 5, 6, 7], none⟩])
 (.seq
 (.reg true [⟨(some 163), .mv (.t 4), [], none⟩,
 ⟨(some 164), .mv (.t 163), [0], none⟩,
 ⟨(some 165), .mv (.t 10), [1], (some (164, true))⟩,
 ⟨(some 166), .pick (.t 164) (.t 165) (.k false [.v (.bool false)]), [1, 2], none⟩,
 ⟨(some 167), .mv (.t 166), [3, 1], none⟩,
 ⟨(some 168), .mv (.t 13), [4], (some (167, true))⟩,
 ⟨(some 169), .pick (.t 167) (.t 168) (.k false [.v (.bool false)]), [4, 5], none⟩,
 ⟨(some 170), .mv (.t 169), [6, 4], none⟩,
 ⟨(some 171), .mv (.t 15), [7], (some (170, true))⟩,
 ⟨(some 172), .pick (.t 170) (.t 171) (.k false [.v (.bool false)]), [7, 8], none⟩,
 ⟨(some 173), .mv (.t 172), [9, 7], none⟩,
 ⟨(some 174), .load true 13 (.t 14), [10], (some (173, true))⟩,
 ⟨(some 175), .build [.v (.int .i64 0), .v (.int .i64 0), .v (.int .i64 0)] [(0, 1, (.k false [.v (.int .i64 0)])), (1, 1, (.k false [.v (.int .i64 1)])), (2, 1, (.k false [.v (.int .i64 0)]))], [10], (some (173, true))⟩,
 ⟨(some 176), .build [.v (.int .i64 0), .v (.int .i64 0), .v (.int .i64 0)] [(0, 1, (.k false [.v (.int .i64 (-1))])), (1, 1, (.k false [.v (.int .i64 0)])), (2, 1, (.k false [.v (.int .i64 0)]))], [10], (some (173, true))⟩,
 ⟨(some 177), .build [.v (.int .i64 0), .v (.int .i64 0), .v (.int .i64 0)] [(0, 1, (.k false [.v (.int .i64 0)])), (1, 1, (.k false [.v (.int .i64 0)])), (2, 1, (.k false [.v (.int .i64 1)]))], [10], (some (173, true))⟩,
 ⟨(some 178), .build (List.replicate 9 (.v (.int .i64 0))) [(0, 3, (.t 175)), (3, 3, (.t 176)), (6, 3, (.t 177))], [12, 13, 14, 10], (some (173, true))⟩,
 ⟨(some 179), .call 7 [(.k false [.v (.int .i64 (-2))]), (.k false [.v (.int .i64 1)]), (.k false [.v (.int .i64 (-3))])], [10, 10], (some (173, true))⟩,
 ⟨(some 180), .call 16 [(.t 178), (.k false [.v (.int .i64 1)]), (.t 179)], [15, 16, 16, 10], (some (173, true))⟩,
 ⟨(some 181), .eqa false [some .i64, some .i64, some .i64, some .i64, some .i64, some .i64, some .i64, some .i64, some .i64, some .i64, some .i64, some .i64, some .i64] (.t 174) (.t 180), [11, 17, 10], (some (173, true))⟩,
 ⟨(some 182), .pick (.t 173) (.t 181) (.k false [.v (.bool false)]), [10, 18], none⟩,
 ⟨(some 183), .mv (.t 182), [19, 17], none⟩,
 ⟨(some 184), .mv (.t 17), [20], (some (183, true))⟩,
 ⟨(some 185), .pick (.t 183) (.t 184) (.k false [.v (.bool false)]), [20, 21], none⟩,
 ⟨(some 186), .mv (.t 185), [22, 20], none⟩,
 ⟨(some 187), .load true 13 (.t 16), [23], (some (186, true))⟩,
 ⟨(some 188), .build [.v (.int .i64 0), .v (.int .i64 0), .v (.int .i64 0)] [(0, 1, (.k false [.v (.int .i64 (-7))])), (1, 1, (.k false [.v (.int .i64 (-24))])), (2, 1, (.k false [.v (.int .i64 0)]))], [23], (some (186, true))⟩,
 ⟨(some 189), .build [.v (.int .i64 0), .v (.int .i64 0), .v (.int .i64 0)] [(0, 1, (.k false [.v (.int .i64 24)])), (1, 1, (.k false [.v (.int .i64 (-7))])), (2, 1, (.k false [.v (.int .i64 0)]))], [23], (some (186, true))⟩,
 ⟨(some 190), .build [.v (.int .i64 0), .v (.int .i64 0), .v (.int .i64 0)] [(0, 1, (.k false [.v (.int .i64 0)])), (1, 1, (.k false [.v (.int .i64 0)])), (2, 1, (.k false [.v (.int .i64 25)]))], [23], (some (186, true))⟩,
 ⟨(some 191), .build (List.replicate 9 (.v (.int .i64 0))) [(0, 3, (.t 188)), (3, 3, (.t 189)), (6, 3, (.t 190))], [25, 26, 27, 23], (some (186, true))⟩,
 ⟨(some 192), .build [.v (.int .i64 0), .v (.int .i64 0), .v (.int .i64 0)] [], [23], (some (186, true))⟩,
 ⟨(some 193), .call 16 [(.t 191), (.k false [.v (.int .i64 25)]), (.t 192)], [28, 29, 23, 23], (some (186, true))⟩,
 ⟨(some 194), .eqa false [some .i64, some .i64, some .i64, some .i64, some .i64, some .i64, some .i64, some .i64, some .i64, some .i64, some .i64, some .i64, some .i64] (.t 187) (.t 193), [24, 30, 23], (some (186, true))⟩,
 ⟨(some 195), .pick (.t 186) (.t 194) (.k false [.v (.bool false)]), [23, 31], none⟩,
 ⟨(some 0), .mv (.t 195), [32, 30, 0, 1, 2, 3, 4, 5, 6, 7, 8, 9, 10, 11, 12, 13, 14, 15, 16, 17, 18, 19, 20, 21, 22, 23, 24, 25, 26, 27, 28, 29, 30, 31, 32], none⟩])
 (.ret))))))))))))))
theorem A4_comp : Tryz.f4.body.bind (comp Tryz.prog Tryz.f4.ntmps []) = some A4 := by kernel_rfl
/- collet/colletref11.Frames -/
def A5 : ACode :=
 .seq
 (.reg false [⟨(some 2), .alloc (List.replicate 13 (.v (.int .i64 0))), [], none⟩])
 (.seq
 (.reg false [⟨(some 9), .mv (.t 0), [], none⟩,
 ⟨(some 10), .build [.v (.slice none 0 0), .v (.int .i64 0)] [(0, 1, (.t 9))], [0], none⟩,
 ⟨(some 11), .box (.t 10), [1], none⟩,
 ⟨(some 3), .mv (.t 11), [2, 0, 1, 2], none⟩])
 (.seq
 (.reg false [⟨(some 12), .call 23 [], [], none⟩,
 ⟨(some 4), .mv (.t 12), [0, 0, 0], none⟩])
 (.seq
 (.reg false [⟨(some 13), .mv (.t 3), [], none⟩,
 ⟨(some 14), .call 25 [(.t 13), (.k false [.v (.int .i64 8)])], [0], none⟩,
 ⟨(some 15), .call 24 [(.t 14)], [1, 1], none⟩,
 ⟨(some 16), .build (List.replicate 13 (.v (.int .i64 0))) [(0, 10, (.t 15))], [2], none⟩,
 ⟨(some 5), .alloc (List.replicate 13 (.v (.int .i64 0))), [], none⟩,
 ⟨none, .store 13 (.t 5) (.t 16), [4, 3, 2, 0, 1, 2, 3, 4], none⟩])
 (.seq
 (.reg false [⟨(some 17), .mv (.t 4), [], none⟩,
 ⟨(some 18), .mv (.t 3), [], none⟩,
 ⟨(some 19), .call 25 [(.t 18), (.k false [.v (.int .i64 24)])], [1], none⟩,
 ⟨(some 20), .ixsl 10 (.t 17) (.t 19), [0, 2], none⟩,
 ⟨(some 21), .load true 10 (.t 20), [3], none⟩,
 ⟨(some 22), .build (List.replicate 13 (.v (.int .i64 0))) [(0, 10, (.t 21))], [4], none⟩,
 ⟨(some 6), .alloc (List.replicate 13 (.v (.int .i64 0))), [], none⟩,
 ⟨none, .store 13 (.t 6) (.t 22), [6, 5, 2, 0, 1, 2, 3, 4, 5, 6], none⟩])
 (.seq
 (.reg false [⟨(some 24), .load true 13 (.t 5), [], none⟩,
 ⟨(some 25), .load true 13 (.t 6), [], none⟩,
 ⟨(some 26), .call 26 [(.t 24), (.t 25)], [0, 1], none⟩,
 ⟨(some 23), .mv (.t 26), [2], none⟩,
 ⟨(some 27), .ext (.t 23) 0, [3], none⟩,
 ⟨(some 28), .ext (.t 23) 1, [3], none⟩,
 ⟨(some 7), .alloc (List.replicate 13 (.v (.int .i64 0))), [], none⟩,
 ⟨none, .store 13 (.t 7) (.t 27), [6, 4, 2, 0, 1, 2, 3, 4, 6], none⟩,
 ⟨(some 8), .mv (.t 28), [5, 7, 0, 1, 2, 3, 4, 5, 6, 7], none⟩])
 (.seq
 (.reg false [⟨(some 29), .mv (.t 3), [], none⟩,
 ⟨(some 30), .call 27 [(.t 29), (.k false [.v (.int .i64 4)])], [0], none⟩,
 ⟨(some 31), .faddr 10 (.t 7), [0, 1], none⟩,
 ⟨none, .store 3 (.t 31) (.t 30), [2, 1, 1, 0, 1], none⟩])
 (.seq
 (.reg false [⟨(some 32), .load true 13 (.t 7), [], none⟩,
 ⟨none, .store 13 (.t 2) (.t 32), [0, 0], none⟩])
 (.ret))))))))
theorem A5_comp : Tryz.f5.body.bind (comp Tryz.prog Tryz.f5.ntmps []) = some A5 := by kernel_rfl
/- collet/colletref08.Points -/
def A6 : ACode :=
 .seq
 (.reg false [⟨(some 2), .mv (.k false [.v (.slice none 0 0)]), [], none⟩])
 (.seq
 (.reg false [⟨(some 12), .mv (.t 0), [], none⟩,
 ⟨(some 13), .build [.v (.slice none 0 0), .v (.int .i64 0)] [(0, 1, (.t 12))], [0], none⟩,
 ⟨(some 14), .box (.t 13), [1], none⟩,
 ⟨(some 3), .mv (.t 14), [2, 0, 1, 2], none⟩])
 (.seq
 (.reg false [⟨(some 15), .mv (.t 3), [], none⟩,
 ⟨(some 16), .call 25 [(.t 15), (.k false [.v (.int .i64 5)])], [0], none⟩,
 ⟨(some 17), .bin .add (.k false [.v (.int .i64 4)]) (.t 16), [1], none⟩,
 ⟨(some 4), .mv (.t 17), [2, 1, 0, 1, 2], none⟩])
 (.seq
 (.reg false [⟨(some 5), .mv (.k false [.v (.slice none 0 0)]), [], none⟩])
 (.seq
 (.seq
 (.reg false [⟨(some 6), .mv (.k false [.v (.int .i64 0)]), [], none⟩])
 (.block 0 (.loop (.seq
 (.seq
 (.reg false [⟨(some 18), .mv (.t 6), [], none⟩,
 ⟨(some 19), .mv (.t 4), [], none⟩,
 ⟨(some 20), .bin .lss (.t 18) (.t 19), [0, 1], none⟩])
 (.cond (.t 20)
 (.skip)
 (.exit 0)))
 (.seq
 (.block 1 (.seq
 (.reg false [⟨(some 23), .mv (.t 3), [], none⟩,
 ⟨(some 24), .call 25 [(.t 23), (.k false [.v (.int .i64 17)])], [0], none⟩,
 ⟨(some 25), .bin .sub (.t 24) (.k false [.v (.int .i64 8)]), [1], none⟩,
 ⟨(some 26), .mv (.t 3), [], none⟩,
 ⟨(some 27), .call 25 [(.t 26), (.k false [.v (.int .i64 17)])], [3, 1], none⟩,
 ⟨(some 28), .bin .sub (.t 27) (.k false [.v (.int .i64 8)]), [4], none⟩,
 ⟨(some 29), .mv (.t 3), [], none⟩,
 ⟨(some 30), .call 25 [(.t 29), (.k false [.v (.int .i64 17)])], [6, 4], none⟩,
 ⟨(some 31), .bin .sub (.t 30) (.k false [.v (.int .i64 8)]), [7], none⟩,
 ⟨(some 32), .build [.v (.int .i64 0), .v (.int .i64 0), .v (.int .i64 0)] [(0, 1, (.t 25)), (1, 1, (.t 28)), (2, 1, (.t 31))], [2, 5, 8], none⟩,
 ⟨(some 7), .alloc [.v (.int .i64 0), .v (.int .i64 0), .v (.int .i64 0)], [], none⟩,
 ⟨none, .store 3 (.t 7) (.t 32), [10, 9, 7, 0, 1, 2, 3, 4, 5, 6, 7, 8, 9, 10], none⟩])
 (.seq
 (.reg false [⟨(some 33), .mv (.t 3), [], none⟩,
 ⟨(some 34), .call 25 [(.t 33), (.k false [.v (.int .i64 6)])], [0], none⟩,
 ⟨(some 8), .mv (.t 34), [1, 1, 0, 1], none⟩])
 (.seq
 (.seq
 (.reg false [⟨(some 35), .mv (.t 8), [], none⟩,
 ⟨(some 36), .bin .eql (.t 35) (.k false [.v (.int .i64 1)]), [0], none⟩,
 ⟨(some 37), .mv (.t 36), [1], none⟩,
 ⟨(some 38), .mv (.t 6), [2], (some (37, true))⟩,
 ⟨(some 39), .bin .gtr (.t 38) (.k false [.v (.int .i64 1)]), [3, 2], (some (37, true))⟩,
 ⟨(some 40), .pick (.t 37) (.t 39) (.k false [.v (.bool false)]), [2, 4], none⟩])
 (.cond (.t 40)
 (.seq
 (.reg true [⟨(some 41), .mv (.t 5), [], none⟩,
 ⟨(some 42), .mv (.t 6), [], none⟩,
 ⟨(some 43), .bin .sub (.t 42) (.k false [.v (.int .i64 1)]), [1], none⟩,
 ⟨(some 44), .ixsl 3 (.t 41) (.t 43), [0, 2], none⟩,
 ⟨(some 45), .load true 3 (.t 44), [3], none⟩,
 ⟨(some 46), .mv (.t 5), [], none⟩,
 ⟨(some 47), .mv (.t 6), [], none⟩,
 ⟨(some 48), .bin .sub (.t 47) (.k false [.v (.int .i64 2)]), [6], none⟩,
 ⟨(some 49), .ixsl 3 (.t 46) (.t 48), [5, 7], none⟩,
 ⟨(some 50), .load true 3 (.t 49), [8], none⟩,
 ⟨(some 9), .alloc [.v (.int .i64 0), .v (.int .i64 0), .v (.int .i64 0)], [], none⟩,
 ⟨(some 10), .alloc [.v (.int .i64 0), .v (.int .i64 0), .v (.int .i64 0)], [], none⟩,
 ⟨none, .store 3 (.t 9) (.t 45), [10, 4, 0, 1, 2, 3, 4, 10, 11], none⟩,
 ⟨none, .store 3 (.t 10) (.t 50), [11, 9, 12, 0, 1, 2, 3, 4, 5, 6, 7, 8, 9, 10, 11, 12], none⟩])
 (.reg false [⟨(some 51), .faddr 0 (.t 9), [], none⟩,
 ⟨(some 52), .load false 1 (.t 51), [0], none⟩,
 ⟨(some 53), .faddr 0 (.t 10), [], none⟩,
 ⟨(some 54), .load false 1 (.t 53), [2], none⟩,
 ⟨(some 55), .bin .add (.t 52) (.t 54), [1, 3], none⟩,
 ⟨(some 56), .bin .quo (.t 55) (.k false [.v (.int .i64 2)]), [4], none⟩,
 ⟨(some 57), .faddr 1 (.t 9), [], none⟩,
 ⟨(some 58), .load false 1 (.t 57), [6], none⟩,
 ⟨(some 59), .faddr 1 (.t 10), [], none⟩,
 ⟨(some 60), .load false 1 (.t 59), [8], none⟩,
 ⟨(some 61), .bin .add (.t 58) (.t 60), [7, 9], none⟩,
 ⟨(some 62), .bin .quo (.t 61) (.k false [.v (.int .i64 2)]), [10], none⟩,
 ⟨(some 63), .faddr 2 (.t 9), [], none⟩,
 ⟨(some 64), .load false 1 (.t 63), [12], none⟩,
 ⟨(some 65), .faddr 2 (.t 10), [], none⟩,
 ⟨(some 66), .load false 1 (.t 65), [14], none⟩,
 ⟨(some 67), .bin .add (.t 64) (.t 66), [13, 15], none⟩,
 ⟨(some 68), .bin .quo (.t 67) (.k false [.v (.int .i64 2)]), [16], none⟩,
 ⟨(some 69), .build [.v (.int .i64 0), .v (.int .i64 0), .v (.int .i64 0)] [(0, 1, (.t 56)), (1, 1, (.t 62)), (2, 1, (.t 68))], [5, 11, 17], none⟩,
 ⟨none, .store 3 (.t 7) (.t 69), [18, 0, 1, 2, 3, 4, 5, 6, 7, 8, 9, 10, 11, 12, 13, 14, 15, 16, 17, 18], none⟩]))
 (.skip)))
 (.seq
 (.seq
 (.reg false [⟨(some 70), .mv (.t 8), [], none⟩,
 ⟨(some 71), .bin .eql (.t 70) (.k false [.v (.int .i64 2)]), [0], none⟩,
 ⟨(some 72), .mv (.t 71), [1], none⟩,
 ⟨(some 73), .mv (.t 6), [2], (some (72, true))⟩,
 ⟨(some 74), .bin .gtr (.t 73) (.k false [.v (.int .i64 0)]), [3, 2], (some (72, true))⟩,
 ⟨(some 75), .pick (.t 72) (.t 74) (.k false [.v (.bool false)]), [2, 4], none⟩])
 (.cond (.t 75)
 (.reg false [⟨(some 76), .mv (.t 5), [], none⟩,
 ⟨(some 77), .mv (.t 6), [], none⟩,
 ⟨(some 78), .bin .sub (.t 77) (.k false [.v (.int .i64 1)]), [1], none⟩,
 ⟨(some 79), .ixsl 3 (.t 76) (.t 78), [0, 2], none⟩,
 ⟨(some 80), .load true 3 (.t 79), [3], none⟩,
 ⟨none, .store 3 (.t 7) (.t 80), [4, 0, 1, 2, 3, 4], none⟩])
 (.skip)))
 (.seq
 (.seq
 (.reg false [⟨(some 81), .mv (.t 8), [], none⟩,
 ⟨(some 82), .bin .eql (.t 81) (.k false [.v (.int .i64 3)]), [0], none⟩,
 ⟨(some 83), .mv (.t 82), [1], none⟩,
 ⟨(some 84), .mv (.t 6), [2], (some (83, true))⟩,
 ⟨(some 85), .bin .gtr (.t 84) (.k false [.v (.int .i64 2)]), [3, 2], (some (83, true))⟩,
 ⟨(some 86), .pick (.t 83) (.t 85) (.k false [.v (.bool false)]), [2, 4], none⟩])
 (.cond (.t 86)
 (.reg false [⟨(some 87), .mv (.t 5), [], none⟩,
 ⟨(some 88), .mv (.t 6), [], none⟩,
 ⟨(some 89), .bin .sub (.t 88) (.k false [.v (.int .i64 1)]), [1], none⟩,
 ⟨(some 90), .ixsl 3 (.t 87) (.t 89), [0, 2], none⟩,
 ⟨(some 91), .faddr 2 (.t 90), [3], none⟩,
 ⟨(some 92), .load false 1 (.t 91), [4], none⟩,
 ⟨(some 93), .faddr 2 (.t 7), [0, 1, 2, 3, 4, 5], none⟩,
 ⟨none, .store 1 (.t 93) (.t 92), [6, 5, 0, 1, 2, 3, 4, 5], none⟩])
 (.skip)))
 (.reg false [⟨(some 94), .mv (.t 5), [], none⟩,
 ⟨(some 95), .load true 3 (.t 7), [], none⟩,
 ⟨(some 96), .bslice 3 [(.t 95)], [1], none⟩,
 ⟨(some 97), .app 3 24 (.t 94) (.t 96), [0, 2], none⟩,
 ⟨(some 5), .mv (.t 97), [3, 3, 0, 1, 2, 3], none⟩])))))))
 (.reg false [⟨(some 21), .mv (.t 6), [], none⟩,
 ⟨(some 22), .bin .add (.t 21) (.k false [.v (.int .i64 1)]), [0], none⟩,
 ⟨(some 6), .mv (.t 22), [1, 0, 1], none⟩]))))))
 (.seq
 (.seq
 (.reg false [⟨(some 98), .mv (.t 5), [], none⟩,
 ⟨(some 99), .call 28 [(.t 98)], [0], none⟩])
 (.cond (.t 99)
 (.seq
 (.reg false [⟨(some 100), .mv (.t 5), [], none⟩,
 ⟨(some 101), .ixsl 3 (.t 100) (.k false [.v (.int .i64 0)]), [0], none⟩,
 ⟨(some 102), .load true 3 (.t 101), [1], none⟩,
 ⟨(some 11), .alloc [.v (.int .i64 0), .v (.int .i64 0), .v (.int .i64 0)], [], none⟩,
 ⟨none, .store 3 (.t 11) (.t 102), [3, 2, 0, 1, 2, 3], none⟩])
 (.seq
 (.reg false [⟨(some 103), .mv (.t 5), [], none⟩,
 ⟨(some 104), .faddr 0 (.t 11), [], none⟩,
 ⟨(some 105), .load false 1 (.t 104), [1], none⟩,
 ⟨(some 106), .bin .sub (.t 105) (.k false [.v (.int .i64 3)]), [2], none⟩,
 ⟨(some 107), .faddr 1 (.t 11), [], none⟩,
 ⟨(some 108), .load false 1 (.t 107), [4], none⟩,
 ⟨(some 109), .faddr 2 (.t 11), [], none⟩,
 ⟨(some 110), .load false 1 (.t 109), [6], none⟩,
 ⟨(some 111), .build [.v (.int .i64 0), .v (.int .i64 0), .v (.int .i64 0)] [(0, 1, (.t 106)), (1, 1, (.t 108)), (2, 1, (.t 110))], [3, 5, 7], none⟩,
 ⟨(some 112), .ixsl 3 (.t 103) (.k false [.v (.int .i64 1)]), [0, 0, 1, 2, 3, 4, 5, 6, 7, 8], none⟩,
 ⟨none, .store 3 (.t 112) (.t 111), [9, 8, 0, 1, 2, 3, 4, 5, 6, 7, 8], none⟩])
 (.seq
 (.reg false [⟨(some 113), .mv (.t 5), [], none⟩,
 ⟨(some 114), .faddr 0 (.t 11), [], none⟩,
 ⟨(some 115), .load false 1 (.t 114), [1], none⟩,
 ⟨(some 116), .faddr 1 (.t 11), [], none⟩,
 ⟨(some 117), .load false 1 (.t 116), [3], none⟩,
 ⟨(some 118), .bin .sub (.t 117) (.k false [.v (.int .i64 2)]), [4], none⟩,
 ⟨(some 119), .faddr 2 (.t 11), [], none⟩,
 ⟨(some 120), .load false 1 (.t 119), [6], none⟩,
 ⟨(some 121), .build [.v (.int .i64 0), .v (.int .i64 0), .v (.int .i64 0)] [(0, 1, (.t 115)), (1, 1, (.t 118)), (2, 1, (.t 120))], [2, 5, 7], none⟩,
 ⟨(some 122), .ixsl 3 (.t 113) (.k false [.v (.int .i64 2)]), [0, 0, 1, 2, 3, 4, 5, 6, 7, 8], none⟩,
 ⟨none, .store 3 (.t 122) (.t 121), [9, 8, 0, 1, 2, 3, 4, 5, 6, 7, 8], none⟩])
 (.reg false [⟨(some 123), .mv (.t 5), [], none⟩,
 ⟨(some 124), .faddr 0 (.t 11), [], none⟩,
 ⟨(some 125), .load false 1 (.t 124), [1], none⟩,
 ⟨(some 126), .faddr 1 (.t 11), [], none⟩,
 ⟨(some 127), .load false 1 (.t 126), [3], none⟩,
 ⟨(some 128), .faddr 2 (.t 11), [], none⟩,
 ⟨(some 129), .load false 1 (.t 128), [5], none⟩,
 ⟨(some 130), .bin .sub (.t 129) (.k false [.v (.int .i64 1)]), [6], none⟩,
 ⟨(some 131), .build [.v (.int .i64 0), .v (.int .i64 0), .v (.int .i64 0)] [(0, 1, (.t 125)), (1, 1, (.t 127)), (2, 1, (.t 130))], [2, 4, 7], none⟩,
 ⟨(some 132), .ixsl 3 (.t 123) (.k false [.v (.int .i64 3)]), [0, 0, 1, 2, 3, 4, 5, 6, 7, 8], none⟩,
 ⟨none, .store 3 (.t 132) (.t 131), [9, 8, 0, 1, 2, 3, 4, 5, 6, 7, 8], none⟩]))))
 (.skip)))
 (.seq
 (.reg false [⟨(some 133), .mv (.t 5), [], none⟩,
 ⟨(some 2), .mv (.t 133), [0, 0], none⟩])
 (.ret)))))))
theorem A6_comp : Tryz.f6.body.bind (comp Tryz.prog Tryz.f6.ntmps []) = some A6 := by kernel_rfl
/- collet/colletref08.Put -/
def A14 : ACode :=
 .seq
 (.reg false [⟨(some 3), .box (.t 1), [], none⟩,
 ⟨(some 4), .mv (.k false [.v (.slice none 0 0)]), [], none⟩])
 (.seq
 (.reg false [⟨(some 5), .mv (.k false [.v (.int .i64 0)]), [], none⟩])
 (.seq
 (.block 0 (.loop (.seq
 (.seq
 (.reg true [⟨(some 7), .mv (.t 5), [], none⟩,
 ⟨(some 8), .mv (.t 0), [], none⟩,
 ⟨(some 9), .len (.t 8), [1], none⟩,
 ⟨(some 10), .bin .lss (.t 7) (.t 9), [0, 2], none⟩,
 ⟨(some 11), .mv (.t 10), [3], none⟩,
 ⟨(some 12), .mv (.t 0), [4], (some (11, true))⟩,
 ⟨(some 13), .mv (.t 5), [4], (some (11, true))⟩,
 ⟨(some 14), .ixsl 3 (.t 12) (.t 13), [5, 6, 4], (some (11, true))⟩,
 ⟨(some 15), .load true 3 (.t 14), [7, 4], (some (11, true))⟩,
 ⟨(some 16), .load true 3 (.t 3), [4], (some (11, true))⟩,
 ⟨(some 17), .call 46 [(.t 15), (.t 16)], [8, 9, 4, 4], (some (11, true))⟩,
 ⟨(some 18), .pick (.t 11) (.t 17) (.k false [.v (.bool false)]), [4, 10], none⟩])
 (.cond (.t 18)
 (.skip)
 (.exit 0)))
 (.block 1 (.reg false [⟨(some 19), .mv (.t 5), [], none⟩,
 ⟨(some 20), .bin .add (.t 19) (.k false [.v (.int .i64 1)]), [0], none⟩,
 ⟨(some 5), .mv (.t 20), [1, 0, 1], none⟩])))))
 (.seq
 (.seq
 (.reg true [⟨(some 21), .mv (.t 5), [], none⟩,
 ⟨(some 22), .mv (.t 0), [], none⟩,
 ⟨(some 23), .len (.t 22), [1], none⟩,
 ⟨(some 24), .bin .lss (.t 21) (.t 23), [0, 2], none⟩,
 ⟨(some 25), .mv (.t 24), [3], none⟩,
 ⟨(some 26), .mv (.t 0), [4], (some (25, true))⟩,
 ⟨(some 27), .mv (.t 5), [4], (some (25, true))⟩,
 ⟨(some 28), .ixsl 3 (.t 26) (.t 27), [5, 6, 4], (some (25, true))⟩,
 ⟨(some 29), .load true 3 (.t 28), [7, 4], (some (25, true))⟩,
 ⟨(some 30), .load true 3 (.t 3), [4], (some (25, true))⟩,
 ⟨(some 31), .eqa false [some .i64, some .i64, some .i64] (.t 29) (.t 30), [8, 9, 4], (some (25, true))⟩,
 ⟨(some 32), .pick (.t 25) (.t 31) (.k false [.v (.bool false)]), [4, 10], none⟩])
 (.cond (.t 32)
 (.seq
 (.reg false [⟨(some 33), .mv (.t 0), [], none⟩,
 ⟨(some 4), .mv (.t 33), [0, 0], none⟩])
 (.ret))
 (.skip)))
 (.seq
 (.reg true [⟨(some 34), .bslice 3 [], [], none⟩,
 ⟨(some 35), .mv (.t 0), [], none⟩,
 ⟨(some 36), .mv (.t 5), [], none⟩,
 ⟨(some 37), .slice 3 (.t 35) none (some (.t 36)), [1, 2], none⟩,
 ⟨(some 38), .app 3 24 (.t 34) (.t 37), [0, 3], none⟩,
 ⟨(some 39), .load true 3 (.t 3), [], none⟩,
 ⟨(some 40), .bslice 3 [(.t 39)], [5], none⟩,
 ⟨(some 41), .app 3 24 (.t 38) (.t 40), [4, 6, 4], none⟩,
 ⟨(some 6), .mv (.t 41), [7, 7, 0, 1, 2, 3, 4, 5, 6, 7], none⟩])
 (.seq
 (.reg false [⟨(some 42), .mv (.t 6), [], none⟩,
 ⟨(some 43), .mv (.t 0), [], none⟩,
 ⟨(some 44), .mv (.t 5), [], none⟩,
 ⟨(some 45), .slice 3 (.t 43) (some (.t 44)) none, [1, 2], none⟩,
 ⟨(some 46), .app 3 24 (.t 42) (.t 45), [0, 3], none⟩,
 ⟨(some 4), .mv (.t 46), [4, 4, 0, 1, 2, 3, 4], none⟩])
 (.ret))))))
theorem A14_comp : Tryz.f14.body.bind (comp Tryz.prog Tryz.f14.ntmps []) = some A14 := by kernel_rfl
/- collet/colletref08.SameVecs -/
def A15 : ACode :=
 .seq
 (.reg false [⟨(some 4), .mv (.k false [.v (.bool false)]), [], none⟩])
 (.seq
 (.seq
 (.reg false [⟨(some 6), .mv (.t 0), [], none⟩,
 ⟨(some 7), .len (.t 6), [0], none⟩,
 ⟨(some 8), .mv (.t 1), [], none⟩,
 ⟨(some 9), .len (.t 8), [2], none⟩,
 ⟨(some 10), .bin .neq (.t 7) (.t 9), [1, 3], none⟩])
 (.cond (.t 10)
 (.seq
 (.reg false [⟨(some 4), .mv (.k false [.v (.bool false)]), [], none⟩])
 (.ret))
 (.skip)))
 (.seq
 (.seq
 (.reg false [⟨(some 5), .mv (.k false [.v (.int .i64 0)]), [], none⟩])
 (.block 0 (.loop (.seq
 (.seq
 (.reg false [⟨(some 11), .mv (.t 5), [], none⟩,
 ⟨(some 12), .mv (.t 0), [], none⟩,
 ⟨(some 13), .len (.t 12), [1], none⟩,
 ⟨(some 14), .bin .lss (.t 11) (.t 13), [0, 2], none⟩])
 (.cond (.t 14)
 (.skip)
 (.exit 0)))
 (.seq
 (.block 1 (.seq
 (.reg true [⟨(some 17), .mv (.t 0), [], none⟩,
 ⟨(some 18), .mv (.t 5), [], none⟩,
 ⟨(some 19), .ixsl 3 (.t 17) (.t 18), [0, 1], none⟩,
 ⟨(some 20), .load true 3 (.t 19), [2], none⟩,
 ⟨(some 21), .mv (.t 1), [], none⟩,
 ⟨(some 22), .mv (.t 5), [], none⟩,
 ⟨(some 23), .ixsl 3 (.t 21) (.t 22), [4, 5], none⟩,
 ⟨(some 24), .load true 3 (.t 23), [6], none⟩,
 ⟨(some 25), .eqa true [some .i64, some .i64, some .i64] (.t 20) (.t 24), [3, 7], none⟩])
 (.cond (.t 25)
 (.seq
 (.reg false [⟨(some 4), .mv (.k false [.v (.bool false)]), [], none⟩])
 (.ret))
 (.skip))))
 (.reg false [⟨(some 15), .mv (.t 5), [], none⟩,
 ⟨(some 16), .bin .add (.t 15) (.k false [.v (.int .i64 1)]), [0], none⟩,
 ⟨(some 5), .mv (.t 16), [1, 0, 1], none⟩]))))))
 (.seq
 (.reg false [⟨(some 4), .mv (.k false [.v (.bool true)]), [], none⟩])
 (.ret))))
theorem A15_comp : Tryz.f15.body.bind (comp Tryz.prog Tryz.f15.ntmps []) = some A15 := by kernel_rfl
/- collet/colletlaw11.frame -/
def A16 : ACode :=
 .seq
 (.reg false [⟨(some 3), .box (.t 0), [], none⟩,
 ⟨(some 5), .box (.t 2), [], none⟩,
 ⟨(some 6), .alloc (List.replicate 13 (.v (.int .i64 0))), [], none⟩])
 (.seq
 (.reg false [⟨(some 7), .load true 9 (.t 3), [], none⟩,
 ⟨(some 8), .mv (.t 1), [], none⟩,
 ⟨(some 9), .build (List.replicate 10 (.v (.int .i64 0))) [(0, 9, (.t 7)), (9, 1, (.t 8))], [0, 1], none⟩,
 ⟨(some 10), .load true 3 (.t 5), [], none⟩,
 ⟨(some 11), .build (List.replicate 13 (.v (.int .i64 0))) [(0, 10, (.t 9)), (10, 3, (.t 10))], [2, 3], none⟩,
 ⟨none, .store 13 (.t 6) (.t 11), [4, 0, 1, 2, 3, 4], none⟩])
 (.ret))
theorem A16_comp : Tryz.f16.body.bind (comp Tryz.prog Tryz.f16.ntmps []) = some A16 := by kernel_rfl
/- collet/colletlaw11.goes -/
def A19 : ACode :=
 .seq
 (.reg false [⟨(some 3), .box (.t 0), [], none⟩,
 ⟨(some 4), .box (.t 1), [], none⟩,
 ⟨(some 5), .box (.t 2), [], none⟩,
 ⟨(some 6), .mv (.k false [.v (.bool false)]), [], none⟩])
 (.seq
 (.reg false [⟨(some 10), .load true 13 (.t 3), [], none⟩,
 ⟨(some 11), .load true 3 (.t 4), [], none⟩,
 ⟨(some 12), .call 8 [(.t 10), (.t 11)], [0, 1], none⟩,
 ⟨(some 9), .mv (.t 12), [2], none⟩,
 ⟨(some 13), .ext (.t 9) 0, [3], none⟩,
 ⟨(some 14), .ext (.t 9) 1, [3], none⟩,
 ⟨(some 7), .alloc [.v (.int .i64 0), .v (.int .i64 0), .v (.int .i64 0)], [], none⟩,
 ⟨none, .store 3 (.t 7) (.t 13), [6, 4, 2, 0, 1, 2, 3, 4, 6], none⟩,
 ⟨(some 8), .mv (.t 14), [5, 7, 0, 1, 2, 3, 4, 5, 6, 7], none⟩])
 (.seq
 (.reg false [⟨(some 15), .mv (.t 8), [], none⟩,
 ⟨(some 16), .mv (.t 15), [0], none⟩,
 ⟨(some 17), .load true 3 (.t 7), [1], (some (16, true))⟩,
 ⟨(some 18), .load true 3 (.t 5), [1], (some (16, true))⟩,
 ⟨(some 19), .eqa false [some .i64, some .i64, some .i64] (.t 17) (.t 18), [2, 3, 1], (some (16, true))⟩,
 ⟨(some 20), .pick (.t 16) (.t 19) (.k false [.v (.bool false)]), [1, 4], none⟩,
 ⟨(some 6), .mv (.t 20), [5, 1, 0, 1, 2, 3, 4, 5], none⟩])
 (.ret)))
theorem A19_comp : Tryz.f19.body.bind (comp Tryz.prog Tryz.f19.ntmps []) = some A19 := by kernel_rfl
/- collet/colletlaw11.turns -/
def A20 : ACode :=
 .seq
 (.reg false [⟨(some 3), .box (.t 0), [], none⟩,
 ⟨(some 4), .box (.t 1), [], none⟩,
 ⟨(some 5), .box (.t 2), [], none⟩,
 ⟨(some 6), .mv (.k false [.v (.bool false)]), [], none⟩])
 (.seq
 (.reg false [⟨(some 10), .load true 13 (.t 3), [], none⟩,
 ⟨(some 11), .load true 4 (.t 4), [], none⟩,
 ⟨(some 12), .call 12 [(.t 10), (.t 11)], [0, 1], none⟩,
 ⟨(some 9), .mv (.t 12), [2], none⟩,
 ⟨(some 13), .ext (.t 9) 0, [3], none⟩,
 ⟨(some 14), .ext (.t 9) 1, [3], none⟩,
 ⟨(some 7), .alloc [.v (.int .i64 0), .v (.int .i64 0), .v (.int .i64 0), .v (.int .i64 0)], [], none⟩,
 ⟨none, .store 4 (.t 7) (.t 13), [6, 4, 2, 0, 1, 2, 3, 4, 6], none⟩,
 ⟨(some 8), .mv (.t 14), [5, 7, 0, 1, 2, 3, 4, 5, 6, 7], none⟩])
 (.seq
 (.reg false [⟨(some 15), .mv (.t 8), [], none⟩,
 ⟨(some 16), .mv (.t 15), [0], none⟩,
 ⟨(some 17), .load true 4 (.t 7), [1], (some (16, true))⟩,
 ⟨(some 18), .load true 4 (.t 5), [1], (some (16, true))⟩,
 ⟨(some 19), .eqa false [some .i64, some .i64, some .i64, some .i64] (.t 17) (.t 18), [2, 3, 1], (some (16, true))⟩,
 ⟨(some 20), .pick (.t 16) (.t 19) (.k false [.v (.bool false)]), [1, 4], none⟩,
 ⟨(some 6), .mv (.t 20), [5, 1, 0, 1, 2, 3, 4, 5], none⟩])
 (.ret)))
theorem A20_comp : Tryz.f20.body.bind (comp Tryz.prog Tryz.f20.ntmps []) = some A20 := by kernel_rfl
/- collet/colletref11.All -/
def A23 : ACode :=
 .seq
 (.reg false [⟨(some 0), .mv (.k false [.v (.slice none 0 0)]), [], none⟩])
 (.seq
 (.reg false [⟨(some 7), .build [.v (.int .i64 0), .v (.int .i64 0), .v (.int .i64 0)] [(0, 1, (.k false [.v (.int .i64 (-1))])), (1, 1, (.k false [.v (.int .i64 0)])), (2, 1, (.k false [.v (.int .i64 0)]))], [], none⟩,
 ⟨(some 8), .build [.v (.int .i64 0), .v (.int .i64 0), .v (.int .i64 0)] [(0, 1, (.k false [.v (.int .i64 0)])), (1, 1, (.k false [.v (.int .i64 (-1))])), (2, 1, (.k false [.v (.int .i64 0)]))], [], none⟩,
 ⟨(some 9), .build [.v (.int .i64 0), .v (.int .i64 0), .v (.int .i64 0)] [(0, 1, (.k false [.v (.int .i64 0)])), (1, 1, (.k false [.v (.int .i64 0)])), (2, 1, (.k false [.v (.int .i64 (-1))]))], [], none⟩,
 ⟨(some 10), .build [.v (.int .i64 0), .v (.int .i64 0), .v (.int .i64 0)] [(0, 1, (.k false [.v (.int .i64 0)])), (1, 1, (.k false [.v (.int .i64 0)])), (2, 1, (.k false [.v (.int .i64 1)]))], [], none⟩,
 ⟨(some 11), .build [.v (.int .i64 0), .v (.int .i64 0), .v (.int .i64 0)] [(0, 1, (.k false [.v (.int .i64 0)])), (1, 1, (.k false [.v (.int .i64 1)])), (2, 1, (.k false [.v (.int .i64 0)]))], [], none⟩,
 ⟨(some 12), .build [.v (.int .i64 0), .v (.int .i64 0), .v (.int .i64 0)] [(0, 1, (.k false [.v (.int .i64 1)])), (1, 1, (.k false [.v (.int .i64 0)])), (2, 1, (.k false [.v (.int .i64 0)]))], [], none⟩,
 ⟨(some 13), .build (List.replicate 18 (.v (.int .i64 0))) [(0, 3, (.t 7)), (3, 3, (.t 8)), (6, 3, (.t 9)), (9, 3, (.t 10)), (12, 3, (.t 11)), (15, 3, (.t 12))], [0, 1, 2, 3, 4, 5], none⟩,
 ⟨(some 1), .alloc (List.replicate 18 (.v (.int .i64 0))), [], none⟩,
 ⟨none, .store 18 (.t 1) (.t 13), [7, 6, 0, 1, 2, 3, 4, 5, 6, 7], none⟩])
 (.seq
 (.reg false [⟨(some 2), .mv (.k false [.v (.slice none 0 0)]), [], none⟩])
 (.seq
 (.seq
 (.reg false [⟨(some 3), .mv (.k false [.v (.int .i64 0)]), [], none⟩])
 (.block 0 (.loop (.seq
 (.seq
 (.reg false [⟨(some 14), .mv (.t 3), [], none⟩,
 ⟨(some 15), .bin .lss (.t 14) (.k false [.v (.int .i64 6)]), [0], none⟩])
 (.cond (.t 15)
 (.skip)
 (.exit 0)))
 (.seq
 (.block 1 (.seq
 (.reg false [⟨(some 4), .mv (.k false [.v (.int .i64 0)]), [], none⟩])
 (.block 2 (.loop (.seq
 (.seq
 (.reg false [⟨(some 18), .mv (.t 4), [], none⟩,
 ⟨(some 19), .bin .lss (.t 18) (.k false [.v (.int .i64 6)]), [0], none⟩])
 (.cond (.t 19)
 (.skip)
 (.exit 2)))
 (.seq
 (.block 3 (.seq
 (.reg true [⟨(some 22), .mv (.t 3), [], none⟩,
 ⟨(some 23), .ixarr 6 3 (.t 1) (.t 22), [0], none⟩,
 ⟨(some 24), .load true 3 (.t 23), [1], none⟩,
 ⟨(some 25), .mv (.t 4), [], none⟩,
 ⟨(some 26), .ixarr 6 3 (.t 1) (.t 25), [3], none⟩,
 ⟨(some 27), .load true 3 (.t 26), [4], none⟩,
 ⟨(some 28), .build (List.replicate 9 (.v (.int .i64 0))) [(0, 3, (.t 24)), (3, 3, (.t 27))], [2, 5], none⟩,
 ⟨(some 29), .build (List.replicate 10 (.v (.int .i64 0))) [(0, 9, (.t 28)), (9, 1, (.k false [.v (.int .i64 1)]))], [6], none⟩,
 ⟨(some 5), .alloc (List.replicate 10 (.v (.int .i64 0))), [], none⟩,
 ⟨none, .store 10 (.t 5) (.t 29), [8, 7, 0, 1, 2, 3, 4, 5, 6, 7, 8], none⟩])
 (.seq
 (.reg true [⟨(some 30), .faddr 0 (.t 5), [], none⟩,
 ⟨(some 31), .load true 9 (.t 30), [0], none⟩,
 ⟨(some 32), .call 56 [(.t 31), (.k false [.v (.int .i64 0)])], [1], none⟩,
 ⟨(some 33), .faddr 0 (.t 5), [], none⟩,
 ⟨(some 34), .load true 9 (.t 33), [3], none⟩,
 ⟨(some 35), .call 56 [(.t 34), (.k false [.v (.int .i64 1)])], [4, 2], none⟩,
 ⟨(some 36), .call 55 [(.t 32), (.t 35)], [2, 5, 5], none⟩,
 ⟨(some 6), .alloc [.v (.int .i64 0), .v (.int .i64 0), .v (.int .i64 0)], [], none⟩,
 ⟨none, .store 3 (.t 6) (.t 36), [7, 6, 6, 0, 1, 2, 3, 4, 5, 6, 7], none⟩])
 (.seq
 (.reg false [⟨(some 37), .faddr 0 (.t 6), [], none⟩,
 ⟨(some 38), .load false 1 (.t 37), [0], none⟩,
 ⟨(some 39), .faddr 1 (.t 6), [], none⟩,
 ⟨(some 40), .load false 1 (.t 39), [2], none⟩,
 ⟨(some 41), .faddr 2 (.t 6), [], none⟩,
 ⟨(some 42), .load false 1 (.t 41), [4], none⟩,
 ⟨(some 43), .build [.v (.int .i64 0), .v (.int .i64 0), .v (.int .i64 0)] [(0, 1, (.t 38)), (1, 1, (.t 40)), (2, 1, (.t 42))], [1, 3, 5], none⟩,
 ⟨(some 44), .faddr 0 (.t 5), [], none⟩,
 ⟨(some 45), .ixarr 3 3 (.t 44) (.k false [.v (.int .i64 2)]), [7, 0, 1, 2, 3, 4, 5, 6], none⟩,
 ⟨none, .store 3 (.t 45) (.t 43), [8, 6, 0, 1, 2, 3, 4, 5, 6], none⟩])
 (.seq
 (.reg false [⟨(some 46), .load true 10 (.t 5), [], none⟩,
 ⟨(some 47), .call 57 [(.t 46)], [0], none⟩])
 (.cond (.t 47)
 (.reg false [⟨(some 48), .mv (.t 2), [], none⟩,
 ⟨(some 49), .load true 10 (.t 5), [], none⟩,
 ⟨(some 50), .bslice 10 [(.t 49)], [1], none⟩,
 ⟨(some 51), .app 10 80 (.t 48) (.t 50), [0, 2], none⟩,
 ⟨(some 2), .mv (.t 51), [3, 3, 0, 1, 2, 3], none⟩])
 (.skip)))))))
 (.reg false [⟨(some 20), .mv (.t 4), [], none⟩,
 ⟨(some 21), .bin .add (.t 20) (.k false [.v (.int .i64 1)]), [0], none⟩,
 ⟨(some 4), .mv (.t 21), [1, 0, 1], none⟩])))))))
 (.reg false [⟨(some 16), .mv (.t 3), [], none⟩,
 ⟨(some 17), .bin .add (.t 16) (.k false [.v (.int .i64 1)]), [0], none⟩,
 ⟨(some 3), .mv (.t 17), [1, 0, 1], none⟩]))))))
 (.seq
 (.reg false [⟨(some 52), .mv (.t 2), [], none⟩,
 ⟨(some 0), .mv (.t 52), [0, 0], none⟩])
 (.ret)))))
theorem A23_comp : Tryz.f23.body.bind (comp Tryz.prog Tryz.f23.ntmps []) = some A23 := by kernel_rfl
/- collet/colletref11.slanted -/
def A24 : ACode :=
 .seq
 (.reg false [⟨(some 2), .alloc (List.replicate 10 (.v (.int .i64 0))), [], none⟩])
 (.seq
 (.seq
 (.reg false [⟨(some 3), .mv (.t 0), [], none⟩])
 (.block 0 (.seq
 (.reg false [⟨(some 5), .bin .eql (.t 3) (.k false [.v (.int .i64 0)]), [], none⟩,
 ⟨(some 4), .mv (.t 5), [0], none⟩])
 (.cond (.t 4)
 (.seq
 (.reg false [⟨(some 6), .build [.v (.int .i64 0), .v (.int .i64 0), .v (.int .i64 0)] [(0, 1, (.k false [.v (.int .i64 3)])), (1, 1, (.k false [.v (.int .i64 (-4))])), (2, 1, (.k false [.v (.int .i64 0)]))], [], none⟩,
 ⟨(some 7), .build [.v (.int .i64 0), .v (.int .i64 0), .v (.int .i64 0)] [(0, 1, (.k false [.v (.int .i64 4)])), (1, 1, (.k false [.v (.int .i64 3)])), (2, 1, (.k false [.v (.int .i64 0)]))], [], none⟩,
 ⟨(some 8), .build [.v (.int .i64 0), .v (.int .i64 0), .v (.int .i64 0)] [(0, 1, (.k false [.v (.int .i64 0)])), (1, 1, (.k false [.v (.int .i64 0)])), (2, 1, (.k false [.v (.int .i64 5)]))], [], none⟩,
 ⟨(some 9), .build (List.replicate 9 (.v (.int .i64 0))) [(0, 3, (.t 6)), (3, 3, (.t 7)), (6, 3, (.t 8))], [0, 1, 2], none⟩,
 ⟨(some 10), .build (List.replicate 10 (.v (.int .i64 0))) [(0, 9, (.t 9)), (9, 1, (.k false [.v (.int .i64 5)]))], [3], none⟩,
 ⟨none, .store 10 (.t 2) (.t 10), [4, 0, 1, 2, 3, 4], none⟩])
 (.ret))
 (.seq
 (.reg false [⟨(some 12), .bin .eql (.t 3) (.k false [.v (.int .i64 1)]), [], none⟩,
 ⟨(some 11), .mv (.t 12), [0], none⟩])
 (.cond (.t 11)
 (.seq
 (.reg false [⟨(some 13), .build [.v (.int .i64 0), .v (.int .i64 0), .v (.int .i64 0)] [(0, 1, (.k false [.v (.int .i64 1)])), (1, 1, (.k false [.v (.int .i64 (-2))])), (2, 1, (.k false [.v (.int .i64 2)]))], [], none⟩,
 ⟨(some 14), .build [.v (.int .i64 0), .v (.int .i64 0), .v (.int .i64 0)] [(0, 1, (.k false [.v (.int .i64 2)])), (1, 1, (.k false [.v (.int .i64 (-1))])), (2, 1, (.k false [.v (.int .i64 (-2))]))], [], none⟩,
 ⟨(some 15), .build [.v (.int .i64 0), .v (.int .i64 0), .v (.int .i64 0)] [(0, 1, (.k false [.v (.int .i64 2)])), (1, 1, (.k false [.v (.int .i64 2)])), (2, 1, (.k false [.v (.int .i64 1)]))], [], none⟩,
 ⟨(some 16), .build (List.replicate 9 (.v (.int .i64 0))) [(0, 3, (.t 13)), (3, 3, (.t 14)), (6, 3, (.t 15))], [0, 1, 2], none⟩,
 ⟨(some 17), .build (List.replicate 10 (.v (.int .i64 0))) [(0, 9, (.t 16)), (9, 1, (.k false [.v (.int .i64 3)]))], [3], none⟩,
 ⟨none, .store 10 (.t 2) (.t 17), [4, 0, 1, 2, 3, 4], none⟩])
 (.ret))
 (.seq
 (.reg false [⟨(some 19), .bin .eql (.t 3) (.k false [.v (.int .i64 2)]), [], none⟩,
 ⟨(some 18), .mv (.t 19), [0], none⟩])
 (.cond (.t 18)
 (.seq
 (.reg false [⟨(some 20), .build [.v (.int .i64 0), .v (.int .i64 0), .v (.int .i64 0)] [(0, 1, (.k false [.v (.int .i64 2)])), (1, 1, (.k false [.v (.int .i64 3)])), (2, 1, (.k false [.v (.int .i64 6)]))], [], none⟩,
 ⟨(some 21), .build [.v (.int .i64 0), .v (.int .i64 0), .v (.int .i64 0)] [(0, 1, (.k false [.v (.int .i64 3)])), (1, 1, (.k false [.v (.int .i64 (-6))])), (2, 1, (.k false [.v (.int .i64 2)]))], [], none⟩,
 ⟨(some 22), .build [.v (.int .i64 0), .v (.int .i64 0), .v (.int .i64 0)] [(0, 1, (.k false [.v (.int .i64 6)])), (1, 1, (.k false [.v (.int .i64 2)])), (2, 1, (.k false [.v (.int .i64 (-3))]))], [], none⟩,
 ⟨(some 23), .build (List.replicate 9 (.v (.int .i64 0))) [(0, 3, (.t 20)), (3, 3, (.t 21)), (6, 3, (.t 22))], [0, 1, 2], none⟩,
 ⟨(some 24), .build (List.replicate 10 (.v (.int .i64 0))) [(0, 9, (.t 23)), (9, 1, (.k false [.v (.int .i64 7)]))], [3], none⟩,
 ⟨none, .store 10 (.t 2) (.t 24), [4, 0, 1, 2, 3, 4], none⟩])
 (.ret))
 (.skip)))))))))
 (.seq
 (.reg false [⟨(some 25), .build [.v (.int .i64 0), .v (.int .i64 0), .v (.int .i64 0)] [(0, 1, (.k false [.v (.int .i64 1)])), (1, 1, (.k false [.v (.int .i64 0)])), (2, 1, (.k false [.v (.int .i64 0)]))], [], none⟩,
 ⟨(some 26), .build [.v (.int .i64 0), .v (.int .i64 0), .v (.int .i64 0)] [(0, 1, (.k false [.v (.int .i64 0)])), (1, 1, (.k false [.v (.int .i64 1)])), (2, 1, (.k false [.v (.int .i64 0)]))], [], none⟩,
 ⟨(some 27), .build [.v (.int .i64 0), .v (.int .i64 0), .v (.int .i64 0)] [(0, 1, (.k false [.v (.int .i64 0)])), (1, 1, (.k false [.v (.int .i64 0)])), (2, 1, (.k false [.v (.int .i64 1)]))], [], none⟩,
 ⟨(some 28), .build (List.replicate 9 (.v (.int .i64 0))) [(0, 3, (.t 25)), (3, 3, (.t 26)), (6, 3, (.t 27))], [0, 1, 2], none⟩,
 ⟨(some 29), .build (List.replicate 10 (.v (.int .i64 0))) [(0, 9, (.t 28)), (9, 1, (.k false [.v (.int .i64 1)]))], [3], none⟩,
 ⟨none, .store 10 (.t 2) (.t 29), [4, 0, 1, 2, 3, 4], none⟩])
 (.ret)))
theorem A24_comp : Tryz.f24.body.bind (comp Tryz.prog Tryz.f24.ntmps []) = some A24 := by kernel_rfl
/- (*collet/colletref01.Draw).Next -/
def A25 : ACode :=
 .seq
 (.reg false [⟨(some 4), .mv (.k false [.v (.int .i64 0)]), [], none⟩])
 (.seq
 (.seq
 (.reg true [⟨(some 5), .mv (.t 0), [], none⟩,
 ⟨(some 6), .nilck (.t 5), [0], none⟩,
 ⟨(some 7), .faddr 1 (.t 6), [1], none⟩,
 ⟨(some 8), .load false 1 (.t 7), [2], none⟩,
 ⟨(some 9), .mv (.t 0), [], none⟩,
 ⟨(some 10), .nilck (.t 9), [4], none⟩,
 ⟨(some 11), .faddr 0 (.t 10), [5], none⟩,
 ⟨(some 12), .load false 1 (.t 11), [6], none⟩,
 ⟨(some 13), .len (.t 12), [7], none⟩,
 ⟨(some 14), .bin .geq (.t 8) (.t 13), [3, 8], none⟩])
 (.cond (.t 14)
 (.seq
 (.reg false [⟨(some 4), .mv (.k false [.v (.int .i64 0)]), [], none⟩])
 (.ret))
 (.skip)))
 (.seq
 (.reg false [⟨(some 15), .mv (.t 0), [], none⟩,
 ⟨(some 16), .nilck (.t 15), [0], none⟩,
 ⟨(some 17), .faddr 1 (.t 16), [1], none⟩,
 ⟨(some 18), .load false 1 (.t 17), [2], none⟩,
 ⟨(some 19), .bin .add (.t 18) (.k false [.v (.int .i64 1)]), [3], none⟩,
 ⟨(some 20), .nilck (.t 15), [0, 0, 1, 2, 3, 4], none⟩,
 ⟨(some 21), .faddr 1 (.t 20), [5, 0, 1, 2, 3, 4], none⟩,
 ⟨none, .store 1 (.t 21) (.t 19), [6, 4, 0, 1, 2, 3, 4], none⟩])
 (.seq
 (.reg true [⟨(some 22), .mv (.t 0), [], none⟩,
 ⟨(some 23), .nilck (.t 22), [0], none⟩,
 ⟨(some 24), .faddr 0 (.t 23), [1], none⟩,
 ⟨(some 25), .load false 1 (.t 24), [2], none⟩,
 ⟨(some 26), .mv (.t 0), [], none⟩,
 ⟨(some 27), .nilck (.t 26), [4], none⟩,
 ⟨(some 28), .faddr 1 (.t 27), [5], none⟩,
 ⟨(some 29), .load false 1 (.t 28), [6], none⟩,
 ⟨(some 30), .bin .sub (.t 29) (.k false [.v (.int .i64 1)]), [7], none⟩,
 ⟨(some 31), .ixsl 1 (.t 25) (.t 30), [3, 8], none⟩,
 ⟨(some 32), .load false 1 (.t 31), [9], none⟩,
 ⟨(some 33), .mv (.t 1), [], none⟩,
 ⟨(some 34), .call 58 [(.t 32), (.t 33)], [10, 11], none⟩,
 ⟨(some 4), .mv (.t 34), [12, 12, 0, 1, 2, 3, 4, 5, 6, 7, 8, 9, 10, 11, 12], none⟩])
 (.ret))))
theorem A25_comp : Tryz.f25.body.bind (comp Tryz.prog Tryz.f25.ntmps []) = some A25 := by kernel_rfl
/- collet/colletref11.After -/
def A26 : ACode :=
 .seq
 (.reg false [⟨(some 2), .box (.t 0), [], none⟩,
 ⟨(some 3), .box (.t 1), [], none⟩,
 ⟨(some 4), .alloc (List.replicate 13 (.v (.int .i64 0))), [], none⟩,
 ⟨(some 5), .mv (.k false [.v (.bool false)]), [], none⟩])
 (.seq
 (.seq
 (.reg false [⟨(some 15), .load true 13 (.t 2), [], none⟩,
 ⟨(some 16), .call 59 [(.t 15)], [0], none⟩,
 ⟨(some 17), .un .not (.t 16), [1], none⟩,
 ⟨(some 18), .mv (.t 17), [2, 1], none⟩,
 ⟨(some 19), .load true 13 (.t 3), [3], (some (18, false))⟩,
 ⟨(some 20), .call 59 [(.t 19)], [4, 3, 3], (some (18, false))⟩,
 ⟨(some 21), .un .not (.t 20), [5, 3], (some (18, false))⟩,
 ⟨(some 22), .pick (.t 18) (.k false [.v (.bool true)]) (.t 21), [3, 6], none⟩])
 (.cond (.t 22)
 (.seq
 (.reg false [⟨(some 23), .build (List.replicate 13 (.v (.int .i64 0))) [], [], none⟩,
 ⟨none, .store 13 (.t 4) (.t 23), [0, 0], none⟩,
 ⟨(some 5), .mv (.k false [.v (.bool false)]), [1, 0, 1], none⟩])
 (.ret))
 (.skip)))
 (.seq
 (.reg false [⟨(some 24), .faddr 0 (.t 2), [], none⟩,
 ⟨(some 25), .faddr 9 (.t 24), [0], none⟩,
 ⟨(some 26), .load false 1 (.t 25), [1], none⟩,
 ⟨(some 27), .faddr 0 (.t 3), [], none⟩,
 ⟨(some 28), .faddr 9 (.t 27), [3], none⟩,
 ⟨(some 29), .load false 1 (.t 28), [4], none⟩,
 ⟨(some 30), .bin .mul (.t 26) (.t 29), [2, 5], none⟩,
 ⟨(some 31), .build (List.replicate 10 (.v (.int .i64 0))) [(9, 1, (.t 30))], [6], none⟩,
 ⟨(some 6), .alloc (List.replicate 10 (.v (.int .i64 0))), [], none⟩,
 ⟨none, .store 10 (.t 6) (.t 31), [8, 7, 0, 1, 2, 3, 4, 5, 6, 7, 8], none⟩])
 (.seq
 (.seq
 (.reg false [⟨(some 7), .mv (.k false [.v (.int .i64 0)]), [], none⟩])
 (.block 0 (.loop (.seq
 (.seq
 (.reg false [⟨(some 32), .mv (.t 7), [], none⟩,
 ⟨(some 33), .bin .lss (.t 32) (.k false [.v (.int .i64 3)]), [0], none⟩])
 (.cond (.t 33)
 (.skip)
 (.exit 0)))
 (.seq
 (.block 1 (.seq
 (.reg false [⟨(some 8), .mv (.k false [.v (.int .i64 0)]), [], none⟩])
 (.block 2 (.loop (.seq
 (.seq
 (.reg false [⟨(some 36), .mv (.t 8), [], none⟩,
 ⟨(some 37), .bin .lss (.t 36) (.k false [.v (.int .i64 3)]), [0], none⟩])
 (.cond (.t 37)
 (.skip)
 (.exit 2)))
 (.seq
 (.block 3 (.reg true [⟨(some 40), .mv (.t 7), [], none⟩,
 ⟨(some 41), .mv (.t 8), [], none⟩,
 ⟨(some 42), .faddr 0 (.t 3), [], none⟩,
 ⟨(some 43), .faddr 0 (.t 42), [2], none⟩,
 ⟨(some 44), .load true 9 (.t 43), [3], none⟩,
 ⟨(some 45), .mv (.t 7), [], none⟩,
 ⟨(some 46), .call 56 [(.t 44), (.t 45)], [4, 5], none⟩,
 ⟨(some 47), .faddr 0 (.t 2), [], none⟩,
 ⟨(some 48), .faddr 0 (.t 47), [7], none⟩,
 ⟨(some 49), .load true 9 (.t 48), [8], none⟩,
 ⟨(some 50), .mv (.t 8), [], none⟩,
 ⟨(some 51), .call 61 [(.t 49), (.t 50)], [9, 10, 6], none⟩,
 ⟨(some 52), .call 60 [(.t 46), (.t 51)], [6, 11, 11], none⟩,
 ⟨(some 53), .faddr 0 (.t 6), [], none⟩,
 ⟨(some 54), .ixarr 3 3 (.t 53) (.t 40), [13, 0], none⟩,
 ⟨(some 55), .ixarr 3 1 (.t 54) (.t 41), [14, 1, 0, 1, 2, 3, 4, 5, 6, 7, 8, 9, 10, 11, 12], none⟩,
 ⟨none, .store 1 (.t 55) (.t 52), [15, 12, 12, 0, 1, 2, 3, 4, 5, 6, 7, 8, 9, 10, 11, 12], none⟩]))
 (.reg false [⟨(some 38), .mv (.t 8), [], none⟩,
 ⟨(some 39), .bin .add (.t 38) (.k false [.v (.int .i64 1)]), [0], none⟩,
 ⟨(some 8), .mv (.t 39), [1, 0, 1], none⟩])))))))
 (.reg false [⟨(some 34), .mv (.t 7), [], none⟩,
 ⟨(some 35), .bin .add (.t 34) (.k false [.v (.int .i64 1)]), [0], none⟩,
 ⟨(some 7), .mv (.t 35), [1, 0, 1], none⟩]))))))
 (.seq
 (.reg false [⟨(some 56), .load true 10 (.t 6), [], none⟩,
 ⟨(some 57), .call 62 [(.t 56)], [0], none⟩,
 ⟨(some 9), .mv (.t 57), [1, 1, 0, 1], none⟩])
 (.seq
 (.reg false [⟨(some 58), .faddr 9 (.t 6), [], none⟩,
 ⟨(some 59), .load false 1 (.t 58), [0], none⟩,
 ⟨(some 60), .mv (.t 9), [], none⟩,
 ⟨(some 61), .bin .quo (.t 59) (.t 60), [1, 2], none⟩,
 ⟨(some 62), .faddr 9 (.t 6), [0, 1, 2, 3], none⟩,
 ⟨none, .store 1 (.t 62) (.t 61), [4, 3, 0, 1, 2, 3], none⟩])
 (.seq
 (.seq
 (.reg false [⟨(some 10), .mv (.k false [.v (.int .i64 0)]), [], none⟩])
 (.block 4 (.loop (.seq
 (.seq
 (.reg false [⟨(some 63), .mv (.t 10), [], none⟩,
 ⟨(some 64), .bin .lss (.t 63) (.k false [.v (.int .i64 3)]), [0], none⟩])
 (.cond (.t 64)
 (.skip)
 (.exit 4)))
 (.seq
 (.block 5 (.seq
 (.reg false [⟨(some 11), .mv (.k false [.v (.int .i64 0)]), [], none⟩])
 (.block 6 (.loop (.seq
 (.seq
 (.reg false [⟨(some 67), .mv (.t 11), [], none⟩,
 ⟨(some 68), .bin .lss (.t 67) (.k false [.v (.int .i64 3)]), [0], none⟩])
 (.cond (.t 68)
 (.skip)
 (.exit 6)))
 (.seq
 (.block 7 (.reg true [⟨(some 71), .mv (.t 10), [], none⟩,
 ⟨(some 72), .mv (.t 11), [], none⟩,
 ⟨(some 73), .mv (.t 10), [], none⟩,
 ⟨(some 74), .mv (.t 11), [], none⟩,
 ⟨(some 75), .faddr 0 (.t 6), [], none⟩,
 ⟨(some 76), .ixarr 3 3 (.t 75) (.t 73), [4, 2], none⟩,
 ⟨(some 77), .ixarr 3 1 (.t 76) (.t 74), [5, 3], none⟩,
 ⟨(some 78), .load false 1 (.t 77), [6], none⟩,
 ⟨(some 79), .mv (.t 9), [], none⟩,
 ⟨(some 80), .bin .quo (.t 78) (.t 79), [7, 8], none⟩,
 ⟨(some 81), .faddr 0 (.t 6), [], none⟩,
 ⟨(some 82), .ixarr 3 3 (.t 81) (.t 71), [10, 0], none⟩,
 ⟨(some 83), .ixarr 3 1 (.t 82) (.t 72), [11, 1, 0, 1, 2, 3, 4, 5, 6, 7, 8, 9], none⟩,
 ⟨none, .store 1 (.t 83) (.t 80), [12, 9, 0, 1, 2, 3, 4, 5, 6, 7, 8, 9], none⟩]))
 (.reg false [⟨(some 69), .mv (.t 11), [], none⟩,
 ⟨(some 70), .bin .add (.t 69) (.k false [.v (.int .i64 1)]), [0], none⟩,
 ⟨(some 11), .mv (.t 70), [1, 0, 1], none⟩])))))))
 (.reg false [⟨(some 65), .mv (.t 10), [], none⟩,
 ⟨(some 66), .bin .add (.t 65) (.k false [.v (.int .i64 1)]), [0], none⟩,
 ⟨(some 10), .mv (.t 66), [1, 0, 1], none⟩]))))))
 (.seq
 (.reg true [⟨(some 85), .faddr 0 (.t 3), [], none⟩,
 ⟨(some 86), .faddr 0 (.t 85), [0], none⟩,
 ⟨(some 87), .load true 9 (.t 86), [1], none⟩,
 ⟨(some 88), .faddr 10 (.t 2), [], none⟩,
 ⟨(some 89), .load true 3 (.t 88), [3], none⟩,
 ⟨(some 90), .call 64 [(.t 87), (.t 89)], [2, 4], none⟩,
 ⟨(some 91), .faddr 0 (.t 3), [], none⟩,
 ⟨(some 92), .faddr 9 (.t 91), [6], none⟩,
 ⟨(some 93), .load false 1 (.t 92), [7], none⟩,
 ⟨(some 94), .call 63 [(.t 90), (.t 93)], [5, 8, 5], none⟩,
 ⟨(some 84), .mv (.t 94), [9], none⟩,
 ⟨(some 95), .ext (.t 84) 0, [10], none⟩,
 ⟨(some 96), .ext (.t 84) 1, [10], none⟩,
 ⟨(some 12), .alloc [.v (.int .i64 0), .v (.int .i64 0), .v (.int .i64 0)], [], none⟩,
 ⟨none, .store 3 (.t 12) (.t 95), [13, 11, 9, 0, 1, 2, 3, 4, 5, 6, 7, 8, 9, 10, 11, 13], none⟩,
 ⟨(some 13), .mv (.t 96), [12, 14, 0, 1, 2, 3, 4, 5, 6, 7, 8, 9, 10, 11, 12, 13, 14], none⟩])
 (.seq
 (.reg true [⟨(some 97), .load true 10 (.t 6), [], none⟩,
 ⟨(some 98), .load true 3 (.t 12), [], none⟩,
 ⟨(some 99), .faddr 10 (.t 3), [], none⟩,
 ⟨(some 100), .load true 3 (.t 99), [2], none⟩,
 ⟨(some 101), .call 65 [(.t 98), (.t 100)], [1, 3], none⟩,
 ⟨(some 102), .build (List.replicate 13 (.v (.int .i64 0))) [(0, 10, (.t 97)), (10, 3, (.t 101))], [0, 4], none⟩,
 ⟨(some 14), .alloc (List.replicate 13 (.v (.int .i64 0))), [], none⟩,
 ⟨none, .store 13 (.t 14) (.t 102), [6, 5, 4, 0, 1, 2, 3, 4, 5, 6], none⟩])
 (.seq
 (.seq
 (.reg false [⟨(some 103), .mv (.t 13), [], none⟩,
 ⟨(some 104), .un .not (.t 103), [0], none⟩,
 ⟨(some 105), .mv (.t 104), [1], none⟩,
 ⟨(some 106), .load true 13 (.t 14), [2], (some (105, false))⟩,
 ⟨(some 107), .call 59 [(.t 106)], [3, 2, 2], (some (105, false))⟩,
 ⟨(some 108), .un .not (.t 107), [4, 2], (some (105, false))⟩,
 ⟨(some 109), .pick (.t 105) (.k false [.v (.bool true)]) (.t 108), [2, 5], none⟩])
 (.cond (.t 109)
 (.seq
 (.reg false [⟨(some 110), .build (List.replicate 13 (.v (.int .i64 0))) [], [], none⟩,
 ⟨none, .store 13 (.t 4) (.t 110), [0, 0], none⟩,
 ⟨(some 5), .mv (.k false [.v (.bool false)]), [1, 0, 1], none⟩])
 (.ret))
 (.skip)))
 (.seq
 (.reg false [⟨(some 111), .load true 13 (.t 14), [], none⟩,
 ⟨none, .store 13 (.t 4) (.t 111), [0, 0], none⟩,
 ⟨(some 5), .mv (.k false [.v (.bool true)]), [1, 0, 1], none⟩])
 (.ret)))))))))))
theorem A26_comp : Tryz.f26.body.bind (comp Tryz.prog Tryz.f26.ntmps []) = some A26 := by kernel_rfl
/- collet/colletref08.flat -/
def A28 : ACode :=
 .seq
 (.reg false [⟨(some 2), .mv (.k false [.v (.bool false)]), [], none⟩])
 (.seq
 (.seq
 (.reg false [⟨(some 3), .mv (.k false [.v (.int .i64 0)]), [], none⟩])
 (.block 0 (.loop (.seq
 (.seq
 (.reg false [⟨(some 9), .mv (.t 3), [], none⟩,
 ⟨(some 10), .mv (.t 0), [], none⟩,
 ⟨(some 11), .len (.t 10), [1], none⟩,
 ⟨(some 12), .bin .lss (.t 9) (.t 11), [0, 2], none⟩])
 (.cond (.t 12)
 (.skip)
 (.exit 0)))
 (.seq
 (.block 1 (.seq
 (.reg false [⟨(some 4), .mv (.k false [.v (.int .i64 0)]), [], none⟩])
 (.block 2 (.loop (.seq
 (.seq
 (.reg false [⟨(some 15), .mv (.t 4), [], none⟩,
 ⟨(some 16), .mv (.t 3), [], none⟩,
 ⟨(some 17), .bin .lss (.t 15) (.t 16), [0, 1], none⟩])
 (.cond (.t 17)
 (.skip)
 (.exit 2)))
 (.seq
 (.block 3 (.seq
 (.reg false [⟨(some 5), .mv (.k false [.v (.int .i64 0)]), [], none⟩])
 (.block 4 (.loop (.seq
 (.seq
 (.reg false [⟨(some 20), .mv (.t 5), [], none⟩,
 ⟨(some 21), .mv (.t 4), [], none⟩,
 ⟨(some 22), .bin .lss (.t 20) (.t 21), [0, 1], none⟩])
 (.cond (.t 22)
 (.skip)
 (.exit 4)))
 (.seq
 (.block 5 (.seq
 (.reg true [⟨(some 26), .mv (.t 0), [], none⟩,
 ⟨(some 27), .mv (.t 3), [], none⟩,
 ⟨(some 28), .ixsl 3 (.t 26) (.t 27), [0, 1], none⟩,
 ⟨(some 29), .load true 3 (.t 28), [2], none⟩,
 ⟨(some 30), .mv (.t 0), [], none⟩,
 ⟨(some 31), .mv (.t 4), [], none⟩,
 ⟨(some 32), .ixsl 3 (.t 30) (.t 31), [4, 5], none⟩,
 ⟨(some 33), .load true 3 (.t 32), [6], none⟩,
 ⟨(some 34), .mv (.t 0), [], none⟩,
 ⟨(some 35), .mv (.t 5), [], none⟩,
 ⟨(some 36), .ixsl 3 (.t 34) (.t 35), [8, 9], none⟩,
 ⟨(some 37), .load true 3 (.t 36), [10], none⟩,
 ⟨(some 38), .call 66 [(.t 29), (.t 33), (.t 37)], [3, 7, 11], none⟩,
 ⟨(some 25), .mv (.t 38), [12], none⟩,
 ⟨(some 39), .ext (.t 25) 0, [13], none⟩,
 ⟨(some 40), .ext (.t 25) 1, [13], none⟩,
 ⟨(some 6), .alloc [.v (.int .i64 0), .v (.int .i64 0), .v (.int .i64 0), .v (.int .i64 0)], [], none⟩,
 ⟨none, .store 4 (.t 6) (.t 39), [16, 14, 12, 0, 1, 2, 3, 4, 5, 6, 7, 8, 9, 10, 11, 12, 13, 14, 16], none⟩,
 ⟨(some 7), .mv (.t 40), [15, 17, 0, 1, 2, 3, 4, 5, 6, 7, 8, 9, 10, 11, 12, 13, 14, 15, 16, 17], none⟩])
 (.seq
 (.reg false [⟨(some 8), .mv (.k false [.v (.int .i64 0)]), [], none⟩])
 (.block 6 (.loop (.seq
 (.seq
 (.reg false [⟨(some 41), .mv (.t 8), [], none⟩,
 ⟨(some 42), .mv (.t 0), [], none⟩,
 ⟨(some 43), .len (.t 42), [1], none⟩,
 ⟨(some 44), .bin .lss (.t 41) (.t 43), [0, 2], none⟩,
 ⟨(some 45), .mv (.t 44), [3], none⟩,
 ⟨(some 46), .mv (.t 7), [4], (some (45, true))⟩,
 ⟨(some 47), .pick (.t 45) (.t 46) (.k false [.v (.bool false)]), [4, 5], none⟩])
 (.cond (.t 47)
 (.skip)
 (.exit 6)))
 (.seq
 (.block 7 (.seq
 (.reg true [⟨(some 50), .load true 4 (.t 6), [], none⟩,
 ⟨(some 51), .mv (.t 0), [], none⟩,
 ⟨(some 52), .mv (.t 8), [], none⟩,
 ⟨(some 53), .ixsl 3 (.t 51) (.t 52), [1, 2], none⟩,
 ⟨(some 54), .load true 3 (.t 53), [3], none⟩,
 ⟨(some 55), .call 67 [(.t 50), (.t 54)], [0, 4], none⟩,
 ⟨(some 56), .bin .neq (.t 55) (.k false [.v (.int .i64 0)]), [5], none⟩])
 (.cond (.t 56)
 (.seq
 (.reg false [⟨(some 2), .mv (.k false [.v (.bool false)]), [], none⟩])
 (.ret))
 (.skip))))
 (.reg false [⟨(some 48), .mv (.t 8), [], none⟩,
 ⟨(some 49), .bin .add (.t 48) (.k false [.v (.int .i64 1)]), [0], none⟩,
 ⟨(some 8), .mv (.t 49), [1, 0, 1], none⟩]))))))))
 (.reg false [⟨(some 23), .mv (.t 5), [], none⟩,
 ⟨(some 24), .bin .add (.t 23) (.k false [.v (.int .i64 1)]), [0], none⟩,
 ⟨(some 5), .mv (.t 24), [1, 0, 1], none⟩])))))))
 (.reg false [⟨(some 18), .mv (.t 4), [], none⟩,
 ⟨(some 19), .bin .add (.t 18) (.k false [.v (.int .i64 1)]), [0], none⟩,
 ⟨(some 4), .mv (.t 19), [1, 0, 1], none⟩])))))))
 (.reg false [⟨(some 13), .mv (.t 3), [], none⟩,
 ⟨(some 14), .bin .add (.t 13) (.k false [.v (.int .i64 1)]), [0], none⟩,
 ⟨(some 3), .mv (.t 14), [1, 0, 1], none⟩]))))))
 (.seq
 (.reg false [⟨(some 2), .mv (.k false [.v (.bool true)]), [], none⟩])
 (.ret)))
theorem A28_comp : Tryz.f28.body.bind (comp Tryz.prog Tryz.f28.ntmps []) = some A28 := by kernel_rfl
/- collet/colletref08.Before -/
def A46 : ACode :=
 .seq
 (.reg false [⟨(some 2), .box (.t 0), [], none⟩,
 ⟨(some 3), .box (.t 1), [], none⟩,
 ⟨(some 4), .mv (.k false [.v (.bool false)]), [], none⟩])
 (.seq
 (.seq
 (.reg false [⟨(some 5), .faddr 0 (.t 2), [], none⟩,
 ⟨(some 6), .load false 1 (.t 5), [0], none⟩,
 ⟨(some 7), .faddr 0 (.t 3), [], none⟩,
 ⟨(some 8), .load false 1 (.t 7), [2], none⟩,
 ⟨(some 9), .bin .neq (.t 6) (.t 8), [1, 3], none⟩])
 (.cond (.t 9)
 (.seq
 (.reg false [⟨(some 10), .faddr 0 (.t 2), [], none⟩,
 ⟨(some 11), .load false 1 (.t 10), [0], none⟩,
 ⟨(some 12), .faddr 0 (.t 3), [], none⟩,
 ⟨(some 13), .load false 1 (.t 12), [2], none⟩,
 ⟨(some 14), .bin .lss (.t 11) (.t 13), [1, 3], none⟩,
 ⟨(some 4), .mv (.t 14), [4, 0, 1, 2, 3, 4], none⟩])
 (.ret))
 (.skip)))
 (.seq
 (.seq
 (.reg false [⟨(some 15), .faddr 1 (.t 2), [], none⟩,
 ⟨(some 16), .load false 1 (.t 15), [0], none⟩,
 ⟨(some 17), .faddr 1 (.t 3), [], none⟩,
 ⟨(some 18), .load false 1 (.t 17), [2], none⟩,
 ⟨(some 19), .bin .neq (.t 16) (.t 18), [1, 3], none⟩])
 (.cond (.t 19)
 (.seq
 (.reg false [⟨(some 20), .faddr 1 (.t 2), [], none⟩,
 ⟨(some 21), .load false 1 (.t 20), [0], none⟩,
 ⟨(some 22), .faddr 1 (.t 3), [], none⟩,
 ⟨(some 23), .load false 1 (.t 22), [2], none⟩,
 ⟨(some 24), .bin .lss (.t 21) (.t 23), [1, 3], none⟩,
 ⟨(some 4), .mv (.t 24), [4, 0, 1, 2, 3, 4], none⟩])
 (.ret))
 (.skip)))
 (.seq
 (.reg false [⟨(some 25), .faddr 2 (.t 2), [], none⟩,
 ⟨(some 26), .load false 1 (.t 25), [0], none⟩,
 ⟨(some 27), .faddr 2 (.t 3), [], none⟩,
 ⟨(some 28), .load false 1 (.t 27), [2], none⟩,
 ⟨(some 29), .bin .lss (.t 26) (.t 28), [1, 3], none⟩,
 ⟨(some 4), .mv (.t 29), [4, 0, 1, 2, 3, 4], none⟩])
 (.ret))))
theorem A46_comp : Tryz.f46.body.bind (comp Tryz.prog Tryz.f46.ntmps []) = some A46 := by kernel_rfl
/- collet/colletref07.Cross -/
def A55 : ACode :=
 .seq
 (.reg false [⟨(some 2), .box (.t 0), [], none⟩,
 ⟨(some 3), .box (.t 1), [], none⟩,
 ⟨(some 4), .alloc [.v (.int .i64 0), .v (.int .i64 0), .v (.int .i64 0)], [], none⟩])
 (.seq
 (.reg false [⟨(some 5), .faddr 1 (.t 2), [], none⟩,
 ⟨(some 6), .load false 1 (.t 5), [0], none⟩,
 ⟨(some 7), .faddr 2 (.t 3), [], none⟩,
 ⟨(some 8), .load false 1 (.t 7), [2], none⟩,
 ⟨(some 9), .bin .mul (.t 6) (.t 8), [1, 3], none⟩,
 ⟨(some 10), .faddr 2 (.t 2), [], none⟩,
 ⟨(some 11), .load false 1 (.t 10), [5], none⟩,
 ⟨(some 12), .faddr 1 (.t 3), [], none⟩,
 ⟨(some 13), .load false 1 (.t 12), [7], none⟩,
 ⟨(some 14), .bin .mul (.t 11) (.t 13), [6, 8], none⟩,
 ⟨(some 15), .bin .sub (.t 9) (.t 14), [4, 9], none⟩,
 ⟨(some 16), .faddr 2 (.t 2), [], none⟩,
 ⟨(some 17), .load false 1 (.t 16), [11], none⟩,
 ⟨(some 18), .faddr 0 (.t 3), [], none⟩,
 ⟨(some 19), .load false 1 (.t 18), [13], none⟩,
 ⟨(some 20), .bin .mul (.t 17) (.t 19), [12, 14], none⟩,
 ⟨(some 21), .faddr 0 (.t 2), [], none⟩,
 ⟨(some 22), .load false 1 (.t 21), [16], none⟩,
 ⟨(some 23), .faddr 2 (.t 3), [], none⟩,
 ⟨(some 24), .load false 1 (.t 23), [18], none⟩,
 ⟨(some 25), .bin .mul (.t 22) (.t 24), [17, 19], none⟩,
 ⟨(some 26), .bin .sub (.t 20) (.t 25), [15, 20], none⟩,
 ⟨(some 27), .faddr 0 (.t 2), [], none⟩,
 ⟨(some 28), .load false 1 (.t 27), [22], none⟩,
 ⟨(some 29), .faddr 1 (.t 3), [], none⟩,
 ⟨(some 30), .load false 1 (.t 29), [24], none⟩,
 ⟨(some 31), .bin .mul (.t 28) (.t 30), [23, 25], none⟩,
 ⟨(some 32), .faddr 1 (.t 2), [], none⟩,
 ⟨(some 33), .load false 1 (.t 32), [27], none⟩,
 ⟨(some 34), .faddr 0 (.t 3), [], none⟩,
 ⟨(some 35), .load false 1 (.t 34), [29], none⟩,
 ⟨(some 36), .bin .mul (.t 33) (.t 35), [28, 30], none⟩,
 ⟨(some 37), .bin .sub (.t 31) (.t 36), [26, 31], none⟩,
 ⟨(some 38), .build [.v (.int .i64 0), .v (.int .i64 0), .v (.int .i64 0)] [(0, 1, (.t 15)), (1, 1, (.t 26)), (2, 1, (.t 37))], [10, 21, 32], none⟩,
 ⟨none, .store 3 (.t 4) (.t 38), [33, 0, 1, 2, 3, 4, 5, 6, 7, 8, 9, 10, 11, 12, 13, 14, 15, 16, 17, 18, 19, 20, 21, 22, 23, 24, 25, 26, 27, 28, 29, 30, 31, 32, 33], none⟩])
 (.ret))
theorem A55_comp : Tryz.f55.body.bind (comp Tryz.prog Tryz.f55.ntmps []) = some A55 := by kernel_rfl
/- collet/colletref11.row -/
def A56 : ACode :=
 .seq
 (.reg false [⟨(some 2), .box (.t 0), [], none⟩,
 ⟨(some 4), .alloc [.v (.int .i64 0), .v (.int .i64 0), .v (.int .i64 0)], [], none⟩])
 (.seq
 (.reg true [⟨(some 5), .mv (.t 1), [], none⟩,
 ⟨(some 6), .ixarr 3 3 (.t 2) (.t 5), [0], none⟩,
 ⟨(some 7), .ixarr 3 1 (.t 6) (.k false [.v (.int .i64 0)]), [1], none⟩,
 ⟨(some 8), .load false 1 (.t 7), [2], none⟩,
 ⟨(some 9), .mv (.t 1), [], none⟩,
 ⟨(some 10), .ixarr 3 3 (.t 2) (.t 9), [4], none⟩,
 ⟨(some 11), .ixarr 3 1 (.t 10) (.k false [.v (.int .i64 1)]), [5], none⟩,
 ⟨(some 12), .load false 1 (.t 11), [6], none⟩,
 ⟨(some 13), .mv (.t 1), [], none⟩,
 ⟨(some 14), .ixarr 3 3 (.t 2) (.t 13), [8], none⟩,
 ⟨(some 15), .ixarr 3 1 (.t 14) (.k false [.v (.int .i64 2)]), [9], none⟩,
 ⟨(some 16), .load false 1 (.t 15), [10], none⟩,
 ⟨(some 17), .build [.v (.int .i64 0), .v (.int .i64 0), .v (.int .i64 0)] [(0, 1, (.t 8)), (1, 1, (.t 12)), (2, 1, (.t 16))], [3, 7, 11], none⟩,
 ⟨none, .store 3 (.t 4) (.t 17), [12, 0, 1, 2, 3, 4, 5, 6, 7, 8, 9, 10, 11, 12], none⟩])
 (.ret))
theorem A56_comp : Tryz.f56.body.bind (comp Tryz.prog Tryz.f56.ntmps []) = some A56 := by kernel_rfl
/- collet/colletref11.Valid -/
def A57 : ACode :=
 .seq
 (.reg false [⟨(some 1), .box (.t 0), [], none⟩,
 ⟨(some 2), .mv (.k false [.v (.bool false)]), [], none⟩])
 (.seq
 (.seq
 (.reg false [⟨(some 7), .faddr 9 (.t 1), [], none⟩,
 ⟨(some 8), .load false 1 (.t 7), [0], none⟩,
 ⟨(some 9), .bin .lss (.t 8) (.k false [.v (.int .i64 1)]), [1], none⟩,
 ⟨(some 10), .mv (.t 9), [2], none⟩,
 ⟨(some 11), .faddr 9 (.t 1), [3], (some (10, false))⟩,
 ⟨(some 12), .load false 1 (.t 11), [4, 3], (some (10, false))⟩,
 ⟨(some 13), .bin .gtr (.t 12) (.k false [.v (.int .i64 25)]), [5, 3], (some (10, false))⟩,
 ⟨(some 14), .pick (.t 10) (.k false [.v (.bool true)]) (.t 13), [3, 6], none⟩,
 ⟨(some 15), .mv (.t 14), [7, 3], none⟩,
 ⟨(some 16), .load true 10 (.t 1), [8], (some (15, false))⟩,
 ⟨(some 17), .call 89 [(.t 16)], [9, 8, 8], (some (15, false))⟩,
 ⟨(some 18), .un .not (.t 17), [10, 8], (some (15, false))⟩,
 ⟨(some 19), .pick (.t 15) (.k false [.v (.bool true)]) (.t 18), [8, 11], none⟩])
 (.cond (.t 19)
 (.seq
 (.reg false [⟨(some 2), .mv (.k false [.v (.bool false)]), [], none⟩])
 (.ret))
 (.skip)))
 (.seq
 (.seq
 (.reg false [⟨(some 3), .mv (.k false [.v (.int .i64 0)]), [], none⟩])
 (.block 0 (.loop (.seq
 (.seq
 (.reg false [⟨(some 20), .mv (.t 3), [], none⟩,
 ⟨(some 21), .bin .lss (.t 20) (.k false [.v (.int .i64 3)]), [0], none⟩])
 (.cond (.t 21)
 (.skip)
 (.exit 0)))
 (.seq
 (.block 1 (.seq
 (.reg false [⟨(some 4), .mv (.k false [.v (.int .i64 0)]), [], none⟩])
 (.block 2 (.loop (.seq
 (.seq
 (.reg false [⟨(some 24), .mv (.t 4), [], none⟩,
 ⟨(some 25), .bin .lss (.t 24) (.k false [.v (.int .i64 3)]), [0], none⟩])
 (.cond (.t 25)
 (.skip)
 (.exit 2)))
 (.seq
 (.block 3 (.seq
 (.reg false [⟨(some 5), .mv (.k false [.v (.int .i64 0)]), [], none⟩])
 (.seq
 (.seq
 (.reg false [⟨(some 28), .mv (.t 3), [], none⟩,
 ⟨(some 29), .mv (.t 4), [], none⟩,
 ⟨(some 30), .bin .eql (.t 28) (.t 29), [0, 1], none⟩])
 (.cond (.t 30)
 (.reg false [⟨(some 31), .faddr 9 (.t 1), [], none⟩,
 ⟨(some 32), .load false 1 (.t 31), [0], none⟩,
 ⟨(some 33), .faddr 9 (.t 1), [], none⟩,
 ⟨(some 34), .load false 1 (.t 33), [2], none⟩,
 ⟨(some 35), .bin .mul (.t 32) (.t 34), [1, 3], none⟩,
 ⟨(some 5), .mv (.t 35), [4, 0, 1, 2, 3, 4], none⟩])
 (.skip)))
 (.seq
 (.reg true [⟨(some 36), .faddr 0 (.t 1), [], none⟩,
 ⟨(some 37), .load true 9 (.t 36), [0], none⟩,
 ⟨(some 38), .mv (.t 3), [], none⟩,
 ⟨(some 39), .call 56 [(.t 37), (.t 38)], [1, 2], none⟩,
 ⟨(some 40), .faddr 0 (.t 1), [], none⟩,
 ⟨(some 41), .load true 9 (.t 40), [4], none⟩,
 ⟨(some 42), .mv (.t 4), [], none⟩,
 ⟨(some 43), .call 56 [(.t 41), (.t 42)], [5, 6, 3], none⟩,
 ⟨(some 44), .call 60 [(.t 39), (.t 43)], [3, 7, 7], none⟩,
 ⟨(some 45), .mv (.t 5), [], none⟩,
 ⟨(some 46), .bin .neq (.t 44) (.t 45), [8, 9], none⟩])
 (.cond (.t 46)
 (.seq
 (.reg false [⟨(some 2), .mv (.k false [.v (.bool false)]), [], none⟩])
 (.ret))
 (.skip))))))
 (.reg false [⟨(some 26), .mv (.t 4), [], none⟩,
 ⟨(some 27), .bin .add (.t 26) (.k false [.v (.int .i64 1)]), [0], none⟩,
 ⟨(some 4), .mv (.t 27), [1, 0, 1], none⟩])))))))
 (.reg false [⟨(some 22), .mv (.t 3), [], none⟩,
 ⟨(some 23), .bin .add (.t 22) (.k false [.v (.int .i64 1)]), [0], none⟩,
 ⟨(some 3), .mv (.t 23), [1, 0, 1], none⟩]))))))
 (.seq
 (.reg true [⟨(some 47), .faddr 0 (.t 1), [], none⟩,
 ⟨(some 48), .load true 9 (.t 47), [0], none⟩,
 ⟨(some 49), .call 56 [(.t 48), (.k false [.v (.int .i64 0)])], [1], none⟩,
 ⟨(some 50), .faddr 0 (.t 1), [], none⟩,
 ⟨(some 51), .load true 9 (.t 50), [3], none⟩,
 ⟨(some 52), .call 56 [(.t 51), (.k false [.v (.int .i64 1)])], [4, 2], none⟩,
 ⟨(some 53), .call 55 [(.t 49), (.t 52)], [2, 5, 5], none⟩,
 ⟨(some 54), .faddr 0 (.t 1), [], none⟩,
 ⟨(some 55), .load true 9 (.t 54), [7], none⟩,
 ⟨(some 56), .call 56 [(.t 55), (.k false [.v (.int .i64 2)])], [8, 6], none⟩,
 ⟨(some 57), .call 60 [(.t 53), (.t 56)], [6, 9, 9], none⟩,
 ⟨(some 6), .mv (.t 57), [10, 10, 0, 1, 2, 3, 4, 5, 6, 7, 8, 9, 10], none⟩])
 (.seq
 (.reg false [⟨(some 58), .mv (.t 6), [], none⟩,
 ⟨(some 59), .faddr 9 (.t 1), [], none⟩,
 ⟨(some 60), .load false 1 (.t 59), [1], none⟩,
 ⟨(some 61), .faddr 9 (.t 1), [], none⟩,
 ⟨(some 62), .load false 1 (.t 61), [3], none⟩,
 ⟨(some 63), .bin .mul (.t 60) (.t 62), [2, 4], none⟩,
 ⟨(some 64), .faddr 9 (.t 1), [], none⟩,
 ⟨(some 65), .load false 1 (.t 64), [6], none⟩,
 ⟨(some 66), .bin .mul (.t 63) (.t 65), [5, 7], none⟩,
 ⟨(some 67), .bin .eql (.t 58) (.t 66), [0, 8], none⟩,
 ⟨(some 68), .mv (.t 67), [9], none⟩,
 ⟨(some 69), .load true 10 (.t 1), [10], (some (68, true))⟩,
 ⟨(some 70), .call 62 [(.t 69)], [11, 10, 10], (some (68, true))⟩,
 ⟨(some 71), .bin .eql (.t 70) (.k false [.v (.int .i64 1)]), [12, 10], (some (68, true))⟩,
 ⟨(some 72), .pick (.t 68) (.t 71) (.k false [.v (.bool false)]), [10, 13], none⟩,
 ⟨(some 2), .mv (.t 72), [14, 12, 0, 1, 2, 3, 4, 5, 6, 7, 8, 9, 10, 11, 12, 13, 14], none⟩])
 (.ret)))))
theorem A57_comp : Tryz.f57.body.bind (comp Tryz.prog Tryz.f57.ntmps []) = some A57 := by kernel_rfl
/- collet/colletref01.Mod -/
def A58 : ACode :=
 .seq
 (.reg false [⟨(some 4), .mv (.k false [.v (.int .i64 0)]), [], none⟩])
 (.seq
 (.seq
 (.reg false [⟨(some 5), .mv (.t 1), [], none⟩,
 ⟨(some 6), .bin .lss (.t 5) (.k false [.v (.int .i64 1)]), [0], none⟩])
 (.cond (.t 6)
 (.seq
 (.reg false [⟨(some 4), .mv (.k false [.v (.int .i64 0)]), [], none⟩])
 (.ret))
 (.skip)))
 (.seq
 (.reg false [⟨(some 7), .mv (.t 0), [], none⟩,
 ⟨(some 8), .mv (.t 1), [], none⟩,
 ⟨(some 9), .bin .rem (.t 7) (.t 8), [0, 1], none⟩,
 ⟨(some 10), .mv (.t 1), [], none⟩,
 ⟨(some 11), .bin .add (.t 9) (.t 10), [2, 3], none⟩,
 ⟨(some 12), .mv (.t 1), [], none⟩,
 ⟨(some 13), .bin .rem (.t 11) (.t 12), [4, 5], none⟩,
 ⟨(some 4), .mv (.t 13), [6, 0, 1, 2, 3, 4, 5, 6], none⟩])
 (.ret)))
theorem A58_comp : Tryz.f58.body.bind (comp Tryz.prog Tryz.f58.ntmps []) = some A58 := by kernel_rfl
/- collet/colletref11.Right -/
def A59 : ACode :=
 .seq
 (.reg false [⟨(some 1), .box (.t 0), [], none⟩,
 ⟨(some 2), .mv (.k false [.v (.bool false)]), [], none⟩])
 (.seq
 (.reg false [⟨(some 3), .faddr 0 (.t 1), [], none⟩,
 ⟨(some 4), .load true 10 (.t 3), [0], none⟩,
 ⟨(some 5), .call 57 [(.t 4)], [1], none⟩,
 ⟨(some 6), .mv (.t 5), [2, 2], none⟩,
 ⟨(some 7), .faddr 10 (.t 1), [3], (some (6, true))⟩,
 ⟨(some 8), .load true 3 (.t 7), [4, 3], (some (6, true))⟩,
 ⟨(some 9), .call 90 [(.t 8)], [5, 3, 3], (some (6, true))⟩,
 ⟨(some 10), .pick (.t 6) (.t 9) (.k false [.v (.bool false)]), [3, 6], none⟩,
 ⟨(some 2), .mv (.t 10), [7, 6, 0, 1, 2, 3, 4, 5, 6, 7], none⟩])
 (.ret))
theorem A59_comp : Tryz.f59.body.bind (comp Tryz.prog Tryz.f59.ntmps []) = some A59 := by kernel_rfl
/- collet/colletref07.Dot -/
def A60 : ACode :=
 .seq
 (.reg false [⟨(some 2), .box (.t 0), [], none⟩,
 ⟨(some 3), .box (.t 1), [], none⟩,
 ⟨(some 4), .mv (.k false [.v (.int .i64 0)]), [], none⟩])
 (.seq
 (.reg false [⟨(some 5), .faddr 0 (.t 2), [], none⟩,
 ⟨(some 6), .load false 1 (.t 5), [0], none⟩,
 ⟨(some 7), .faddr 0 (.t 3), [], none⟩,
 ⟨(some 8), .load false 1 (.t 7), [2], none⟩,
 ⟨(some 9), .bin .mul (.t 6) (.t 8), [1, 3], none⟩,
 ⟨(some 10), .faddr 1 (.t 2), [], none⟩,
 ⟨(some 11), .load false 1 (.t 10), [5], none⟩,
 ⟨(some 12), .faddr 1 (.t 3), [], none⟩,
 ⟨(some 13), .load false 1 (.t 12), [7], none⟩,
 ⟨(some 14), .bin .mul (.t 11) (.t 13), [6, 8], none⟩,
 ⟨(some 15), .bin .add (.t 9) (.t 14), [4, 9], none⟩,
 ⟨(some 16), .faddr 2 (.t 2), [], none⟩,
 ⟨(some 17), .load false 1 (.t 16), [11], none⟩,
 ⟨(some 18), .faddr 2 (.t 3), [], none⟩,
 ⟨(some 19), .load false 1 (.t 18), [13], none⟩,
 ⟨(some 20), .bin .mul (.t 17) (.t 19), [12, 14], none⟩,
 ⟨(some 21), .bin .add (.t 15) (.t 20), [10, 15], none⟩,
 ⟨(some 4), .mv (.t 21), [16, 0, 1, 2, 3, 4, 5, 6, 7, 8, 9, 10, 11, 12, 13, 14, 15, 16], none⟩])
 (.ret))
theorem A60_comp : Tryz.f60.body.bind (comp Tryz.prog Tryz.f60.ntmps []) = some A60 := by kernel_rfl
/- collet/colletref11.column -/
def A61 : ACode :=
 .seq
 (.reg false [⟨(some 2), .box (.t 0), [], none⟩,
 ⟨(some 4), .alloc [.v (.int .i64 0), .v (.int .i64 0), .v (.int .i64 0)], [], none⟩])
 (.seq
 (.reg true [⟨(some 5), .mv (.t 1), [], none⟩,
 ⟨(some 6), .ixarr 3 3 (.t 2) (.k false [.v (.int .i64 0)]), [], none⟩,
 ⟨(some 7), .ixarr 3 1 (.t 6) (.t 5), [1, 0], none⟩,
 ⟨(some 8), .load false 1 (.t 7), [2], none⟩,
 ⟨(some 9), .mv (.t 1), [], none⟩,
 ⟨(some 10), .ixarr 3 3 (.t 2) (.k false [.v (.int .i64 1)]), [], none⟩,
 ⟨(some 11), .ixarr 3 1 (.t 10) (.t 9), [5, 4], none⟩,
 ⟨(some 12), .load false 1 (.t 11), [6], none⟩,
 ⟨(some 13), .mv (.t 1), [], none⟩,
 ⟨(some 14), .ixarr 3 3 (.t 2) (.k false [.v (.int .i64 2)]), [], none⟩,
 ⟨(some 15), .ixarr 3 1 (.t 14) (.t 13), [9, 8], none⟩,
 ⟨(some 16), .load false 1 (.t 15), [10], none⟩,
 ⟨(some 17), .build [.v (.int .i64 0), .v (.int .i64 0), .v (.int .i64 0)] [(0, 1, (.t 8)), (1, 1, (.t 12)), (2, 1, (.t 16))], [3, 7, 11], none⟩,
 ⟨none, .store 3 (.t 4) (.t 17), [12, 0, 1, 2, 3, 4, 5, 6, 7, 8, 9, 10, 11, 12], none⟩])
 (.ret))
theorem A61_comp : Tryz.f61.body.bind (comp Tryz.prog Tryz.f61.ntmps []) = some A61 := by kernel_rfl
/- collet/colletref11.common -/
def A62 : ACode :=
 .seq
 (.reg false [⟨(some 1), .box (.t 0), [], none⟩,
 ⟨(some 2), .mv (.k false [.v (.int .i64 0)]), [], none⟩])
 (.seq
 (.reg false [⟨(some 6), .faddr 9 (.t 1), [], none⟩,
 ⟨(some 7), .load false 1 (.t 6), [0], none⟩,
 ⟨(some 8), .call 91 [(.t 7)], [1], none⟩,
 ⟨(some 3), .mv (.t 8), [2, 2, 0, 1, 2], none⟩])
 (.seq
 (.seq
 (.reg false [⟨(some 4), .mv (.k false [.v (.int .i64 0)]), [], none⟩])
 (.block 0 (.loop (.seq
 (.seq
 (.reg false [⟨(some 9), .mv (.t 4), [], none⟩,
 ⟨(some 10), .bin .lss (.t 9) (.k false [.v (.int .i64 3)]), [0], none⟩])
 (.cond (.t 10)
 (.skip)
 (.exit 0)))
 (.seq
 (.block 1 (.seq
 (.reg false [⟨(some 5), .mv (.k false [.v (.int .i64 0)]), [], none⟩])
 (.block 2 (.loop (.seq
 (.seq
 (.reg false [⟨(some 13), .mv (.t 5), [], none⟩,
 ⟨(some 14), .bin .lss (.t 13) (.k false [.v (.int .i64 3)]), [0], none⟩])
 (.cond (.t 14)
 (.skip)
 (.exit 2)))
 (.seq
 (.block 3 (.reg false [⟨(some 17), .mv (.t 3), [], none⟩,
 ⟨(some 18), .mv (.t 4), [], none⟩,
 ⟨(some 19), .mv (.t 5), [], none⟩,
 ⟨(some 20), .faddr 0 (.t 1), [], none⟩,
 ⟨(some 21), .ixarr 3 3 (.t 20) (.t 18), [3, 1], none⟩,
 ⟨(some 22), .ixarr 3 1 (.t 21) (.t 19), [4, 2], none⟩,
 ⟨(some 23), .load false 1 (.t 22), [5], none⟩,
 ⟨(some 24), .call 91 [(.t 23)], [6], none⟩,
 ⟨(some 25), .call 92 [(.t 17), (.t 24)], [0, 7, 7], none⟩,
 ⟨(some 3), .mv (.t 25), [8, 8, 0, 1, 2, 3, 4, 5, 6, 7, 8], none⟩]))
 (.reg false [⟨(some 15), .mv (.t 5), [], none⟩,
 ⟨(some 16), .bin .add (.t 15) (.k false [.v (.int .i64 1)]), [0], none⟩,
 ⟨(some 5), .mv (.t 16), [1, 0, 1], none⟩])))))))
 (.reg false [⟨(some 11), .mv (.t 4), [], none⟩,
 ⟨(some 12), .bin .add (.t 11) (.k false [.v (.int .i64 1)]), [0], none⟩,
 ⟨(some 4), .mv (.t 12), [1, 0, 1], none⟩]))))))
 (.seq
 (.reg false [⟨(some 26), .mv (.t 3), [], none⟩,
 ⟨(some 2), .mv (.t 26), [0, 0], none⟩])
 (.ret))))
theorem A62_comp : Tryz.f62.body.bind (comp Tryz.prog Tryz.f62.ntmps []) = some A62 := by kernel_rfl
/- collet/colletref11.divided -/
def A63 : ACode :=
 .seq
 (.reg false [⟨(some 2), .box (.t 0), [], none⟩,
 ⟨(some 4), .alloc [.v (.int .i64 0), .v (.int .i64 0), .v (.int .i64 0)], [], none⟩,
 ⟨(some 5), .mv (.k false [.v (.bool false)]), [], none⟩])
 (.seq
 (.seq
 (.reg false [⟨(some 6), .faddr 0 (.t 2), [], none⟩,
 ⟨(some 7), .load false 1 (.t 6), [0], none⟩,
 ⟨(some 8), .mv (.t 1), [], none⟩,
 ⟨(some 9), .bin .rem (.t 7) (.t 8), [1, 2], none⟩,
 ⟨(some 10), .bin .neq (.t 9) (.k false [.v (.int .i64 0)]), [3], none⟩,
 ⟨(some 11), .mv (.t 10), [4], none⟩,
 ⟨(some 12), .faddr 1 (.t 2), [5], (some (11, false))⟩,
 ⟨(some 13), .load false 1 (.t 12), [6, 5], (some (11, false))⟩,
 ⟨(some 14), .mv (.t 1), [5], (some (11, false))⟩,
 ⟨(some 15), .bin .rem (.t 13) (.t 14), [7, 8, 5], (some (11, false))⟩,
 ⟨(some 16), .bin .neq (.t 15) (.k false [.v (.int .i64 0)]), [9, 5], (some (11, false))⟩,
 ⟨(some 17), .pick (.t 11) (.k false [.v (.bool true)]) (.t 16), [5, 10], none⟩,
 ⟨(some 18), .mv (.t 17), [11, 5], none⟩,
 ⟨(some 19), .faddr 2 (.t 2), [12], (some (18, false))⟩,
 ⟨(some 20), .load false 1 (.t 19), [13, 12], (some (18, false))⟩,
 ⟨(some 21), .mv (.t 1), [12], (some (18, false))⟩,
 ⟨(some 22), .bin .rem (.t 20) (.t 21), [14, 15, 12], (some (18, false))⟩,
 ⟨(some 23), .bin .neq (.t 22) (.k false [.v (.int .i64 0)]), [16, 12], (some (18, false))⟩,
 ⟨(some 24), .pick (.t 18) (.k false [.v (.bool true)]) (.t 23), [12, 17], none⟩])
 (.cond (.t 24)
 (.seq
 (.reg false [⟨(some 25), .build [.v (.int .i64 0), .v (.int .i64 0), .v (.int .i64 0)] [], [], none⟩,
 ⟨none, .store 3 (.t 4) (.t 25), [0, 0], none⟩,
 ⟨(some 5), .mv (.k false [.v (.bool false)]), [1, 0, 1], none⟩])
 (.ret))
 (.skip)))
 (.seq
 (.reg true [⟨(some 26), .faddr 0 (.t 2), [], none⟩,
 ⟨(some 27), .load false 1 (.t 26), [0], none⟩,
 ⟨(some 28), .mv (.t 1), [], none⟩,
 ⟨(some 29), .bin .quo (.t 27) (.t 28), [1, 2], none⟩,
 ⟨(some 30), .faddr 1 (.t 2), [], none⟩,
 ⟨(some 31), .load false 1 (.t 30), [4], none⟩,
 ⟨(some 32), .mv (.t 1), [], none⟩,
 ⟨(some 33), .bin .quo (.t 31) (.t 32), [5, 6], none⟩,
 ⟨(some 34), .faddr 2 (.t 2), [], none⟩,
 ⟨(some 35), .load false 1 (.t 34), [8], none⟩,
 ⟨(some 36), .mv (.t 1), [], none⟩,
 ⟨(some 37), .bin .quo (.t 35) (.t 36), [9, 10], none⟩,
 ⟨(some 38), .build [.v (.int .i64 0), .v (.int .i64 0), .v (.int .i64 0)] [(0, 1, (.t 29)), (1, 1, (.t 33)), (2, 1, (.t 37))], [3, 7, 11], none⟩,
 ⟨none, .store 3 (.t 4) (.t 38), [12, 0, 1, 2, 3, 4, 5, 6, 7, 8, 9, 10, 11, 12], none⟩,
 ⟨(some 5), .mv (.k false [.v (.bool true)]), [13, 0, 1, 2, 3, 4, 5, 6, 7, 8, 9, 10, 11, 12, 13], none⟩])
 (.ret)))
theorem A63_comp : Tryz.f63.body.bind (comp Tryz.prog Tryz.f63.ntmps []) = some A63 := by kernel_rfl
/- collet/colletref11.times -/
def A64 : ACode :=
 .seq
 (.reg false [⟨(some 2), .box (.t 0), [], none⟩,
 ⟨(some 3), .box (.t 1), [], none⟩,
 ⟨(some 4), .alloc [.v (.int .i64 0), .v (.int .i64 0), .v (.int .i64 0)], [], none⟩])
 (.seq
 (.reg true [⟨(some 5), .load true 9 (.t 2), [], none⟩,
 ⟨(some 6), .call 56 [(.t 5), (.k false [.v (.int .i64 0)])], [0], none⟩,
 ⟨(some 7), .load true 3 (.t 3), [], none⟩,
 ⟨(some 8), .call 60 [(.t 6), (.t 7)], [1, 2, 1], none⟩,
 ⟨(some 9), .load true 9 (.t 2), [], none⟩,
 ⟨(some 10), .call 56 [(.t 9), (.k false [.v (.int .i64 1)])], [4, 3], none⟩,
 ⟨(some 11), .load true 3 (.t 3), [], none⟩,
 ⟨(some 12), .call 60 [(.t 10), (.t 11)], [5, 6, 5], none⟩,
 ⟨(some 13), .load true 9 (.t 2), [], none⟩,
 ⟨(some 14), .call 56 [(.t 13), (.k false [.v (.int .i64 2)])], [8, 7], none⟩,
 ⟨(some 15), .load true 3 (.t 3), [], none⟩,
 ⟨(some 16), .call 60 [(.t 14), (.t 15)], [9, 10, 9], none⟩,
 ⟨(some 17), .build [.v (.int .i64 0), .v (.int .i64 0), .v (.int .i64 0)] [(0, 1, (.t 8)), (1, 1, (.t 12)), (2, 1, (.t 16))], [3, 7, 11], none⟩,
 ⟨none, .store 3 (.t 4) (.t 17), [12, 11, 0, 1, 2, 3, 4, 5, 6, 7, 8, 9, 10, 11, 12], none⟩])
 (.ret))
theorem A64_comp : Tryz.f64.body.bind (comp Tryz.prog Tryz.f64.ntmps []) = some A64 := by kernel_rfl
/- collet/colletref07.Add -/
def A65 : ACode :=
 .seq
 (.reg false [⟨(some 2), .box (.t 0), [], none⟩,
 ⟨(some 3), .box (.t 1), [], none⟩,
 ⟨(some 4), .alloc [.v (.int .i64 0), .v (.int .i64 0), .v (.int .i64 0)], [], none⟩])
 (.seq
 (.reg false [⟨(some 5), .faddr 0 (.t 2), [], none⟩,
 ⟨(some 6), .load false 1 (.t 5), [0], none⟩,
 ⟨(some 7), .faddr 0 (.t 3), [], none⟩,
 ⟨(some 8), .load false 1 (.t 7), [2], none⟩,
 ⟨(some 9), .bin .add (.t 6) (.t 8), [1, 3], none⟩,
 ⟨(some 10), .faddr 1 (.t 2), [], none⟩,
 ⟨(some 11), .load false 1 (.t 10), [5], none⟩,
 ⟨(some 12), .faddr 1 (.t 3), [], none⟩,
 ⟨(some 13), .load false 1 (.t 12), [7], none⟩,
 ⟨(some 14), .bin .add (.t 11) (.t 13), [6, 8], none⟩,
 ⟨(some 15), .faddr 2 (.t 2), [], none⟩,
 ⟨(some 16), .load false 1 (.t 15), [10], none⟩,
 ⟨(some 17), .faddr 2 (.t 3), [], none⟩,
 ⟨(some 18), .load false 1 (.t 17), [12], none⟩,
 ⟨(some 19), .bin .add (.t 16) (.t 18), [11, 13], none⟩,
 ⟨(some 20), .build [.v (.int .i64 0), .v (.int .i64 0), .v (.int .i64 0)] [(0, 1, (.t 9)), (1, 1, (.t 14)), (2, 1, (.t 19))], [4, 9, 14], none⟩,
 ⟨none, .store 3 (.t 4) (.t 20), [15, 0, 1, 2, 3, 4, 5, 6, 7, 8, 9, 10, 11, 12, 13, 14, 15], none⟩])
 (.ret))
theorem A65_comp : Tryz.f65.body.bind (comp Tryz.prog Tryz.f65.ntmps []) = some A65 := by kernel_rfl
/- collet/colletref07.Through -/
def A66 : ACode :=
 .seq
 (.reg false [⟨(some 3), .box (.t 0), [], none⟩,
 ⟨(some 4), .box (.t 1), [], none⟩,
 ⟨(some 5), .box (.t 2), [], none⟩,
 ⟨(some 6), .alloc [.v (.int .i64 0), .v (.int .i64 0), .v (.int .i64 0), .v (.int .i64 0)], [], none⟩,
 ⟨(some 7), .mv (.k false [.v (.bool false)]), [], none⟩])
 (.seq
 (.seq
 (.reg false [⟨(some 10), .load true 3 (.t 3), [], none⟩,
 ⟨(some 11), .call 93 [(.t 10)], [0], none⟩,
 ⟨(some 12), .un .not (.t 11), [1], none⟩,
 ⟨(some 13), .mv (.t 12), [2, 1], none⟩,
 ⟨(some 14), .load true 3 (.t 4), [3], (some (13, false))⟩,
 ⟨(some 15), .call 93 [(.t 14)], [4, 3, 3], (some (13, false))⟩,
 ⟨(some 16), .un .not (.t 15), [5, 3], (some (13, false))⟩,
 ⟨(some 17), .pick (.t 13) (.k false [.v (.bool true)]) (.t 16), [3, 6], none⟩,
 ⟨(some 18), .mv (.t 17), [7, 5], none⟩,
 ⟨(some 19), .load true 3 (.t 5), [8], (some (18, false))⟩,
 ⟨(some 20), .call 93 [(.t 19)], [9, 8, 8], (some (18, false))⟩,
 ⟨(some 21), .un .not (.t 20), [10, 8], (some (18, false))⟩,
 ⟨(some 22), .pick (.t 18) (.k false [.v (.bool true)]) (.t 21), [8, 11], none⟩])
 (.cond (.t 22)
 (.seq
 (.reg false [⟨(some 23), .build [.v (.int .i64 0), .v (.int .i64 0), .v (.int .i64 0), .v (.int .i64 0)] [], [], none⟩,
 ⟨none, .store 4 (.t 6) (.t 23), [0, 0], none⟩,
 ⟨(some 7), .mv (.k false [.v (.bool false)]), [1, 0, 1], none⟩])
 (.ret))
 (.skip)))
 (.seq
 (.reg true [⟨(some 25), .load true 3 (.t 4), [], none⟩,
 ⟨(some 26), .load true 3 (.t 3), [], none⟩,
 ⟨(some 27), .call 95 [(.t 25), (.t 26)], [0, 1], none⟩,
 ⟨(some 28), .load true 3 (.t 5), [], none⟩,
 ⟨(some 29), .load true 3 (.t 3), [], none⟩,
 ⟨(some 30), .call 95 [(.t 28), (.t 29)], [3, 4, 2], none⟩,
 ⟨(some 31), .call 55 [(.t 27), (.t 30)], [2, 5, 5], none⟩,
 ⟨(some 32), .call 94 [(.t 31)], [6, 6], none⟩,
 ⟨(some 24), .mv (.t 32), [7], none⟩,
 ⟨(some 33), .ext (.t 24) 0, [8], none⟩,
 ⟨(some 34), .ext (.t 24) 1, [8], none⟩,
 ⟨(some 8), .alloc [.v (.int .i64 0), .v (.int .i64 0), .v (.int .i64 0)], [], none⟩,
 ⟨none, .store 3 (.t 8) (.t 33), [11, 9, 7, 0, 1, 2, 3, 4, 5, 6, 7, 8, 9, 11], none⟩,
 ⟨(some 9), .mv (.t 34), [10, 12, 0, 1, 2, 3, 4, 5, 6, 7, 8, 9, 10, 11, 12], none⟩])
 (.seq
 (.seq
 (.reg false [⟨(some 35), .mv (.t 9), [], none⟩,
 ⟨(some 36), .bin .eql (.t 35) (.k false [.v (.int .i64 0)]), [0], none⟩])
 (.cond (.t 36)
 (.seq
 (.reg false [⟨(some 37), .build [.v (.int .i64 0), .v (.int .i64 0), .v (.int .i64 0), .v (.int .i64 0)] [], [], none⟩,
 ⟨none, .store 4 (.t 6) (.t 37), [0, 0], none⟩,
 ⟨(some 7), .mv (.k false [.v (.bool false)]), [1, 0, 1], none⟩])
 (.ret))
 (.skip)))
 (.seq
 (.reg true [⟨(some 38), .load true 3 (.t 8), [], none⟩,
 ⟨(some 39), .load true 3 (.t 8), [], none⟩,
 ⟨(some 40), .load true 3 (.t 3), [], none⟩,
 ⟨(some 41), .call 60 [(.t 39), (.t 40)], [1, 2], none⟩,
 ⟨(some 42), .build [.v (.int .i64 0), .v (.int .i64 0), .v (.int .i64 0), .v (.int .i64 0)] [(0, 3, (.t 38)), (3, 1, (.t 41))], [0, 3], none⟩,
 ⟨none, .store 4 (.t 6) (.t 42), [4, 3, 0, 1, 2, 3, 4], none⟩,
 ⟨(some 7), .mv (.k false [.v (.bool true)]), [5, 0, 1, 2, 3, 4, 5], none⟩])
 (.ret)))))
theorem A66_comp : Tryz.f66.body.bind (comp Tryz.prog Tryz.f66.ntmps []) = some A66 := by kernel_rfl
/- collet/colletref07.Side -/
def A67 : ACode :=
 .seq
 (.reg false [⟨(some 2), .box (.t 0), [], none⟩,
 ⟨(some 3), .box (.t 1), [], none⟩,
 ⟨(some 4), .mv (.k false [.v (.int .i64 0)]), [], none⟩])
 (.seq
 (.seq
 (.reg false [⟨(some 6), .load true 4 (.t 2), [], none⟩,
 ⟨(some 7), .call 96 [(.t 6)], [0], none⟩,
 ⟨(some 8), .un .not (.t 7), [1], none⟩,
 ⟨(some 9), .mv (.t 8), [2, 1], none⟩,
 ⟨(some 10), .load true 3 (.t 3), [3], (some (9, false))⟩,
 ⟨(some 11), .call 93 [(.t 10)], [4, 3, 3], (some (9, false))⟩,
 ⟨(some 12), .un .not (.t 11), [5, 3], (some (9, false))⟩,
 ⟨(some 13), .pick (.t 9) (.k false [.v (.bool true)]) (.t 12), [3, 6], none⟩])
 (.cond (.t 13)
 (.seq
 (.reg false [⟨(some 4), .mv (.k false [.v (.int .i64 0)]), [], none⟩])
 (.ret))
 (.skip)))
 (.seq
 (.reg true [⟨(some 14), .faddr 0 (.t 2), [], none⟩,
 ⟨(some 15), .load true 3 (.t 14), [0], none⟩,
 ⟨(some 16), .load true 3 (.t 3), [], none⟩,
 ⟨(some 17), .call 60 [(.t 15), (.t 16)], [1, 2], none⟩,
 ⟨(some 18), .faddr 3 (.t 2), [], none⟩,
 ⟨(some 19), .load false 1 (.t 18), [4], none⟩,
 ⟨(some 20), .bin .sub (.t 17) (.t 19), [3, 5], none⟩,
 ⟨(some 5), .mv (.t 20), [6, 3, 0, 1, 2, 3, 4, 5, 6], none⟩])
 (.seq
 (.seq
 (.reg false [⟨(some 21), .mv (.t 5), [], none⟩,
 ⟨(some 22), .bin .lss (.t 21) (.k false [.v (.int .i64 0)]), [0], none⟩])
 (.cond (.t 22)
 (.seq
 (.reg false [⟨(some 4), .mv (.k false [.v (.int .i64 (-1))]), [], none⟩])
 (.ret))
 (.skip)))
 (.seq
 (.seq
 (.reg false [⟨(some 23), .mv (.t 5), [], none⟩,
 ⟨(some 24), .bin .gtr (.t 23) (.k false [.v (.int .i64 0)]), [0], none⟩])
 (.cond (.t 24)
 (.seq
 (.reg false [⟨(some 4), .mv (.k false [.v (.int .i64 1)]), [], none⟩])
 (.ret))
 (.skip)))
 (.seq
 (.reg false [⟨(some 4), .mv (.k false [.v (.int .i64 0)]), [], none⟩])
 (.ret))))))
theorem A67_comp : Tryz.f67.body.bind (comp Tryz.prog Tryz.f67.ntmps []) = some A67 := by kernel_rfl
/- collet/colletref11.small -/
def A89 : ACode :=
 .seq
 (.reg false [⟨(some 1), .box (.t 0), [], none⟩,
 ⟨(some 2), .mv (.k false [.v (.bool false)]), [], none⟩])
 (.seq
 (.seq
 (.reg false [⟨(some 3), .mv (.k false [.v (.int .i64 0)]), [], none⟩])
 (.block 0 (.loop (.seq
 (.seq
 (.reg false [⟨(some 5), .mv (.t 3), [], none⟩,
 ⟨(some 6), .bin .lss (.t 5) (.k false [.v (.int .i64 3)]), [0], none⟩])
 (.cond (.t 6)
 (.skip)
 (.exit 0)))
 (.seq
 (.block 1 (.seq
 (.reg false [⟨(some 4), .mv (.k false [.v (.int .i64 0)]), [], none⟩])
 (.block 2 (.loop (.seq
 (.seq
 (.reg false [⟨(some 9), .mv (.t 4), [], none⟩,
 ⟨(some 10), .bin .lss (.t 9) (.k false [.v (.int .i64 3)]), [0], none⟩])
 (.cond (.t 10)
 (.skip)
 (.exit 2)))
 (.seq
 (.block 3 (.seq
 (.reg true [⟨(some 13), .mv (.t 3), [], none⟩,
 ⟨(some 14), .mv (.t 4), [], none⟩,
 ⟨(some 15), .faddr 0 (.t 1), [], none⟩,
 ⟨(some 16), .ixarr 3 3 (.t 15) (.t 13), [2, 0], none⟩,
 ⟨(some 17), .ixarr 3 1 (.t 16) (.t 14), [3, 1], none⟩,
 ⟨(some 18), .load false 1 (.t 17), [4], none⟩,
 ⟨(some 19), .faddr 9 (.t 1), [], none⟩,
 ⟨(some 20), .load false 1 (.t 19), [6], none⟩,
 ⟨(some 21), .un .neg (.t 20), [7], none⟩,
 ⟨(some 22), .bin .lss (.t 18) (.t 21), [5, 8], none⟩,
 ⟨(some 23), .mv (.t 22), [9], none⟩,
 ⟨(some 24), .mv (.t 3), [10], (some (23, false))⟩,
 ⟨(some 25), .mv (.t 4), [10], (some (23, false))⟩,
 ⟨(some 26), .faddr 0 (.t 1), [10], (some (23, false))⟩,
 ⟨(some 27), .ixarr 3 3 (.t 26) (.t 24), [13, 11, 10], (some (23, false))⟩,
 ⟨(some 28), .ixarr 3 1 (.t 27) (.t 25), [14, 12, 10], (some (23, false))⟩,
 ⟨(some 29), .load false 1 (.t 28), [15, 10], (some (23, false))⟩,
 ⟨(some 30), .faddr 9 (.t 1), [10], (some (23, false))⟩,
 ⟨(some 31), .load false 1 (.t 30), [17, 10], (some (23, false))⟩,
 ⟨(some 32), .bin .gtr (.t 29) (.t 31), [16, 18, 10], (some (23, false))⟩,
 ⟨(some 33), .pick (.t 23) (.k false [.v (.bool true)]) (.t 32), [10, 19], none⟩])
 (.cond (.t 33)
 (.seq
 (.reg false [⟨(some 2), .mv (.k false [.v (.bool false)]), [], none⟩])
 (.ret))
 (.skip))))
 (.reg false [⟨(some 11), .mv (.t 4), [], none⟩,
 ⟨(some 12), .bin .add (.t 11) (.k false [.v (.int .i64 1)]), [0], none⟩,
 ⟨(some 4), .mv (.t 12), [1, 0, 1], none⟩])))))))
 (.reg false [⟨(some 7), .mv (.t 3), [], none⟩,
 ⟨(some 8), .bin .add (.t 7) (.k false [.v (.int .i64 1)]), [0], none⟩,
 ⟨(some 3), .mv (.t 8), [1, 0, 1], none⟩]))))))
 (.seq
 (.reg false [⟨(some 2), .mv (.k false [.v (.bool true)]), [], none⟩])
 (.ret)))
theorem A89_comp : Tryz.f89.body.bind (comp Tryz.prog Tryz.f89.ntmps []) = some A89 := by kernel_rfl
/- collet/colletref11.within -/
def A90 : ACode :=
 .seq
 (.reg false [⟨(some 1), .box (.t 0), [], none⟩,
 ⟨(some 2), .mv (.k false [.v (.bool false)]), [], none⟩])
 (.seq
 (.reg false [⟨(some 3), .faddr 0 (.t 1), [], none⟩,
 ⟨(some 4), .load false 1 (.t 3), [0], none⟩,
 ⟨(some 5), .call 91 [(.t 4)], [1], none⟩,
 ⟨(some 6), .bin .leq (.t 5) (.k false [.v (.int .i64 96)]), [2], none⟩,
 ⟨(some 7), .mv (.t 6), [3, 2], none⟩,
 ⟨(some 8), .faddr 1 (.t 1), [4], (some (7, true))⟩,
 ⟨(some 9), .load false 1 (.t 8), [5, 4], (some (7, true))⟩,
 ⟨(some 10), .call 91 [(.t 9)], [6, 4, 4], (some (7, true))⟩,
 ⟨(some 11), .bin .leq (.t 10) (.k false [.v (.int .i64 96)]), [7, 4], (some (7, true))⟩,
 ⟨(some 12), .pick (.t 7) (.t 11) (.k false [.v (.bool false)]), [4, 8], none⟩,
 ⟨(some 13), .mv (.t 12), [9, 7], none⟩,
 ⟨(some 14), .faddr 2 (.t 1), [10], (some (13, true))⟩,
 ⟨(some 15), .load false 1 (.t 14), [11, 10], (some (13, true))⟩,
 ⟨(some 16), .call 91 [(.t 15)], [12, 10, 10], (some (13, true))⟩,
 ⟨(some 17), .bin .leq (.t 16) (.k false [.v (.int .i64 96)]), [13, 10], (some (13, true))⟩,
 ⟨(some 18), .pick (.t 13) (.t 17) (.k false [.v (.bool false)]), [10, 14], none⟩,
 ⟨(some 19), .mv (.t 18), [15, 13], none⟩,
 ⟨(some 20), .faddr 0 (.t 1), [16], (some (19, true))⟩,
 ⟨(some 21), .load false 1 (.t 20), [17, 16], (some (19, true))⟩,
 ⟨(some 22), .bin .geq (.t 21) (.k false [.v (.int .i64 (-96))]), [18, 16], (some (19, true))⟩,
 ⟨(some 23), .pick (.t 19) (.t 22) (.k false [.v (.bool false)]), [16, 19], none⟩,
 ⟨(some 24), .mv (.t 23), [20, 16], none⟩,
 ⟨(some 25), .faddr 1 (.t 1), [21], (some (24, true))⟩,
 ⟨(some 26), .load false 1 (.t 25), [22, 21], (some (24, true))⟩,
 ⟨(some 27), .bin .geq (.t 26) (.k false [.v (.int .i64 (-96))]), [23, 21], (some (24, true))⟩,
 ⟨(some 28), .pick (.t 24) (.t 27) (.k false [.v (.bool false)]), [21, 24], none⟩,
 ⟨(some 29), .mv (.t 28), [25, 21], none⟩,
 ⟨(some 30), .faddr 2 (.t 1), [26], (some (29, true))⟩,
 ⟨(some 31), .load false 1 (.t 30), [27, 26], (some (29, true))⟩,
 ⟨(some 32), .bin .geq (.t 31) (.k false [.v (.int .i64 (-96))]), [28, 26], (some (29, true))⟩,
 ⟨(some 33), .pick (.t 29) (.t 32) (.k false [.v (.bool false)]), [26, 29], none⟩,
 ⟨(some 2), .mv (.t 33), [30, 26, 0, 1, 2, 3, 4, 5, 6, 7, 8, 9, 10, 11, 12, 13, 14, 15, 16, 17, 18, 19, 20, 21, 22, 23, 24, 25, 26, 27, 28, 29, 30], none⟩])
 (.ret))
theorem A90_comp : Tryz.f90.body.bind (comp Tryz.prog Tryz.f90.ntmps []) = some A90 := by kernel_rfl
/- collet/colletref11.absolute -/
def A91 : ACode :=
 .seq
 (.reg false [⟨(some 2), .mv (.k false [.v (.int .i64 0)]), [], none⟩])
 (.seq
 (.reg false [⟨(some 3), .mv (.t 0), [], none⟩,
 ⟨(some 4), .mv (.t 0), [], none⟩,
 ⟨(some 5), .un .neg (.t 4), [1], none⟩,
 ⟨(some 6), .mx [(.t 3), (.t 5)], [0, 2], none⟩,
 ⟨(some 2), .mv (.t 6), [3, 0, 1, 2, 3], none⟩])
 (.ret))
theorem A91_comp : Tryz.f91.body.bind (comp Tryz.prog Tryz.f91.ntmps []) = some A91 := by kernel_rfl
/- collet/colletref11.divisor -/
def A92 : ACode :=
 .seq
 (.reg false [⟨(some 4), .mv (.k false [.v (.int .i64 0)]), [], none⟩])
 (.seq
 (.block 0 (.loop (.seq
 (.seq
 (.reg false [⟨(some 5), .mv (.t 1), [], none⟩,
 ⟨(some 6), .bin .gtr (.t 5) (.k false [.v (.int .i64 0)]), [0], none⟩])
 (.cond (.t 6)
 (.skip)
 (.exit 0)))
 (.block 1 (.reg true [⟨(some 7), .mv (.t 1), [], none⟩,
 ⟨(some 8), .mv (.t 0), [], none⟩,
 ⟨(some 9), .mv (.t 1), [], none⟩,
 ⟨(some 10), .bin .rem (.t 8) (.t 9), [1, 2], none⟩,
 ⟨(some 0), .mv (.t 7), [0, 0, 1], none⟩,
 ⟨(some 1), .mv (.t 10), [3, 4, 0, 1, 2, 3, 4], none⟩])))))
 (.seq
 (.reg false [⟨(some 11), .mv (.t 0), [], none⟩,
 ⟨(some 4), .mv (.t 11), [0, 0], none⟩])
 (.ret)))
theorem A92_comp : Tryz.f92.body.bind (comp Tryz.prog Tryz.f92.ntmps []) = some A92 := by kernel_rfl
/- collet/colletref07.In -/
def A93 : ACode :=
 .seq
 (.reg false [⟨(some 1), .box (.t 0), [], none⟩,
 ⟨(some 2), .mv (.k false [.v (.bool false)]), [], none⟩])
 (.seq
 (.reg false [⟨(some 5), .load true 3 (.t 1), [], none⟩,
 ⟨(some 6), .call 113 [(.t 5)], [0], none⟩,
 ⟨(some 3), .alloc [.v (.int .i64 0), .v (.int .i64 0), .v (.int .i64 0)], [], none⟩,
 ⟨none, .store 3 (.t 3) (.t 6), [2, 1, 1, 0, 1, 2], none⟩])
 (.seq
 (.seq
 (.reg false [⟨(some 4), .mv (.k false [.v (.int .i64 0)]), [], none⟩])
 (.block 0 (.loop (.seq
 (.seq
 (.reg false [⟨(some 7), .mv (.t 4), [], none⟩,
 ⟨(some 8), .bin .lss (.t 7) (.k false [.v (.int .i64 3)]), [0], none⟩])
 (.cond (.t 8)
 (.skip)
 (.exit 0)))
 (.seq
 (.block 1 (.seq
 (.reg false [⟨(some 11), .mv (.t 4), [], none⟩,
 ⟨(some 12), .ixarr 3 1 (.t 3) (.t 11), [0], none⟩,
 ⟨(some 13), .load false 1 (.t 12), [1], none⟩,
 ⟨(some 14), .bin .lss (.t 13) (.k false [.v (.int .i64 (-24))]), [2], none⟩,
 ⟨(some 15), .mv (.t 14), [3], none⟩,
 ⟨(some 16), .mv (.t 4), [4], (some (15, false))⟩,
 ⟨(some 17), .ixarr 3 1 (.t 3) (.t 16), [5, 4], (some (15, false))⟩,
 ⟨(some 18), .load false 1 (.t 17), [6, 4], (some (15, false))⟩,
 ⟨(some 19), .bin .gtr (.t 18) (.k false [.v (.int .i64 24)]), [7, 4], (some (15, false))⟩,
 ⟨(some 20), .pick (.t 15) (.k false [.v (.bool true)]) (.t 19), [4, 8], none⟩])
 (.cond (.t 20)
 (.seq
 (.reg false [⟨(some 2), .mv (.k false [.v (.bool false)]), [], none⟩])
 (.ret))
 (.skip))))
 (.reg false [⟨(some 9), .mv (.t 4), [], none⟩,
 ⟨(some 10), .bin .add (.t 9) (.k false [.v (.int .i64 1)]), [0], none⟩,
 ⟨(some 4), .mv (.t 10), [1, 0, 1], none⟩]))))))
 (.seq
 (.reg false [⟨(some 2), .mv (.k false [.v (.bool true)]), [], none⟩])
 (.ret))))
theorem A93_comp : Tryz.f93.body.bind (comp Tryz.prog Tryz.f93.ntmps []) = some A93 := by kernel_rfl
/- collet/colletref07.Prim -/
def A94 : ACode :=
 .seq
 (.reg false [⟨(some 1), .box (.t 0), [], none⟩,
 ⟨(some 2), .alloc [.v (.int .i64 0), .v (.int .i64 0), .v (.int .i64 0)], [], none⟩,
 ⟨(some 3), .mv (.k false [.v (.int .i64 0)]), [], none⟩])
 (.seq
 (.reg false [⟨(some 8), .load true 3 (.t 1), [], none⟩,
 ⟨(some 9), .call 113 [(.t 8)], [0], none⟩,
 ⟨(some 4), .alloc [.v (.int .i64 0), .v (.int .i64 0), .v (.int .i64 0)], [], none⟩,
 ⟨none, .store 3 (.t 4) (.t 9), [2, 1, 1, 0, 1, 2], none⟩])
 (.seq
 (.reg false [⟨(some 5), .mv (.k false [.v (.int .i64 0)]), [], none⟩])
 (.seq
 (.seq
 (.reg false [⟨(some 6), .mv (.k false [.v (.int .i64 0)]), [], none⟩])
 (.block 0 (.loop (.seq
 (.seq
 (.reg false [⟨(some 10), .mv (.t 6), [], none⟩,
 ⟨(some 11), .bin .lss (.t 10) (.k false [.v (.int .i64 3)]), [0], none⟩])
 (.cond (.t 11)
 (.skip)
 (.exit 0)))
 (.seq
 (.block 1 (.seq
 (.seq
 (.reg false [⟨(some 14), .mv (.t 6), [], none⟩,
 ⟨(some 15), .ixarr 3 1 (.t 4) (.t 14), [0], none⟩,
 ⟨(some 16), .load false 1 (.t 15), [1], none⟩,
 ⟨(some 17), .bin .eql (.t 16) (.k false [.v (.int .i64 (-9223372036854775808))]), [2], none⟩])
 (.cond (.t 17)
 (.seq
 (.reg false [⟨(some 18), .build [.v (.int .i64 0), .v (.int .i64 0), .v (.int .i64 0)] [], [], none⟩,
 ⟨none, .store 3 (.t 2) (.t 18), [0, 0], none⟩,
 ⟨(some 3), .mv (.k false [.v (.int .i64 0)]), [1, 0, 1], none⟩])
 (.ret))
 (.skip)))
 (.seq
 (.reg false [⟨(some 19), .mv (.t 6), [], none⟩,
 ⟨(some 20), .ixarr 3 1 (.t 4) (.t 19), [0], none⟩,
 ⟨(some 21), .load false 1 (.t 20), [1], none⟩,
 ⟨(some 22), .call 114 [(.t 21)], [2], none⟩,
 ⟨(some 7), .mv (.t 22), [3, 3, 0, 1, 2, 3], none⟩])
 (.block 2 (.loop (.seq
 (.seq
 (.reg false [⟨(some 23), .mv (.t 7), [], none⟩,
 ⟨(some 24), .bin .gtr (.t 23) (.k false [.v (.int .i64 0)]), [0], none⟩])
 (.cond (.t 24)
 (.skip)
 (.exit 2)))
 (.block 3 (.reg true [⟨(some 25), .mv (.t 7), [], none⟩,
 ⟨(some 26), .mv (.t 5), [], none⟩,
 ⟨(some 27), .mv (.t 7), [], none⟩,
 ⟨(some 28), .bin .rem (.t 26) (.t 27), [1, 2], none⟩,
 ⟨(some 5), .mv (.t 25), [0, 0, 1], none⟩,
 ⟨(some 7), .mv (.t 28), [3, 4, 0, 1, 2, 3, 4], none⟩]))))))))
 (.reg false [⟨(some 12), .mv (.t 6), [], none⟩,
 ⟨(some 13), .bin .add (.t 12) (.k false [.v (.int .i64 1)]), [0], none⟩,
 ⟨(some 6), .mv (.t 13), [1, 0, 1], none⟩]))))))
 (.seq
 (.seq
 (.reg false [⟨(some 29), .mv (.t 5), [], none⟩,
 ⟨(some 30), .bin .eql (.t 29) (.k false [.v (.int .i64 0)]), [0], none⟩])
 (.cond (.t 30)
 (.seq
 (.reg false [⟨(some 31), .build [.v (.int .i64 0), .v (.int .i64 0), .v (.int .i64 0)] [], [], none⟩,
 ⟨none, .store 3 (.t 2) (.t 31), [0, 0], none⟩,
 ⟨(some 3), .mv (.k false [.v (.int .i64 0)]), [1, 0, 1], none⟩])
 (.ret))
 (.skip)))
 (.seq
 (.reg true [⟨(some 32), .faddr 0 (.t 1), [], none⟩,
 ⟨(some 33), .load false 1 (.t 32), [0], none⟩,
 ⟨(some 34), .mv (.t 5), [], none⟩,
 ⟨(some 35), .bin .quo (.t 33) (.t 34), [1, 2], none⟩,
 ⟨(some 36), .faddr 1 (.t 1), [], none⟩,
 ⟨(some 37), .load false 1 (.t 36), [4], none⟩,
 ⟨(some 38), .mv (.t 5), [], none⟩,
 ⟨(some 39), .bin .quo (.t 37) (.t 38), [5, 6], none⟩,
 ⟨(some 40), .faddr 2 (.t 1), [], none⟩,
 ⟨(some 41), .load false 1 (.t 40), [8], none⟩,
 ⟨(some 42), .mv (.t 5), [], none⟩,
 ⟨(some 43), .bin .quo (.t 41) (.t 42), [9, 10], none⟩,
 ⟨(some 44), .build [.v (.int .i64 0), .v (.int .i64 0), .v (.int .i64 0)] [(0, 1, (.t 35)), (1, 1, (.t 39)), (2, 1, (.t 43))], [3, 7, 11], none⟩,
 ⟨(some 45), .mv (.t 5), [], none⟩,
 ⟨none, .store 3 (.t 2) (.t 44), [12, 0, 1, 2, 3, 4, 5, 6, 7, 8, 9, 10, 11, 12], none⟩,
 ⟨(some 3), .mv (.t 45), [13, 14, 0, 1, 2, 3, 4, 5, 6, 7, 8, 9, 10, 11, 12, 13, 14], none⟩])
 (.ret))))))
theorem A94_comp : Tryz.f94.body.bind (comp Tryz.prog Tryz.f94.ntmps []) = some A94 := by kernel_rfl
/- collet/colletref07.Sub -/
def A95 : ACode :=
 .seq
 (.reg false [⟨(some 2), .box (.t 0), [], none⟩,
 ⟨(some 3), .box (.t 1), [], none⟩,
 ⟨(some 4), .alloc [.v (.int .i64 0), .v (.int .i64 0), .v (.int .i64 0)], [], none⟩])
 (.seq
 (.reg false [⟨(some 5), .faddr 0 (.t 2), [], none⟩,
 ⟨(some 6), .load false 1 (.t 5), [0], none⟩,
 ⟨(some 7), .faddr 0 (.t 3), [], none⟩,
 ⟨(some 8), .load false 1 (.t 7), [2], none⟩,
 ⟨(some 9), .bin .sub (.t 6) (.t 8), [1, 3], none⟩,
 ⟨(some 10), .faddr 1 (.t 2), [], none⟩,
 ⟨(some 11), .load false 1 (.t 10), [5], none⟩,
 ⟨(some 12), .faddr 1 (.t 3), [], none⟩,
 ⟨(some 13), .load false 1 (.t 12), [7], none⟩,
 ⟨(some 14), .bin .sub (.t 11) (.t 13), [6, 8], none⟩,
 ⟨(some 15), .faddr 2 (.t 2), [], none⟩,
 ⟨(some 16), .load false 1 (.t 15), [10], none⟩,
 ⟨(some 17), .faddr 2 (.t 3), [], none⟩,
 ⟨(some 18), .load false 1 (.t 17), [12], none⟩,
 ⟨(some 19), .bin .sub (.t 16) (.t 18), [11, 13], none⟩,
 ⟨(some 20), .build [.v (.int .i64 0), .v (.int .i64 0), .v (.int .i64 0)] [(0, 1, (.t 9)), (1, 1, (.t 14)), (2, 1, (.t 19))], [4, 9, 14], none⟩,
 ⟨none, .store 3 (.t 4) (.t 20), [15, 0, 1, 2, 3, 4, 5, 6, 7, 8, 9, 10, 11, 12, 13, 14, 15], none⟩])
 (.ret))
theorem A95_comp : Tryz.f95.body.bind (comp Tryz.prog Tryz.f95.ntmps []) = some A95 := by kernel_rfl
/- collet/colletref07.Valid -/
def A96 : ACode :=
 .seq
 (.reg false [⟨(some 1), .box (.t 0), [], none⟩,
 ⟨(some 2), .mv (.k false [.v (.bool false)]), [], none⟩])
 (.seq
 (.reg false [⟨(some 7), .faddr 0 (.t 1), [], none⟩,
 ⟨(some 8), .load true 3 (.t 7), [0], none⟩,
 ⟨(some 9), .call 113 [(.t 8)], [1], none⟩,
 ⟨(some 3), .alloc [.v (.int .i64 0), .v (.int .i64 0), .v (.int .i64 0)], [], none⟩,
 ⟨none, .store 3 (.t 3) (.t 9), [3, 2, 2, 0, 1, 2, 3], none⟩])
 (.seq
 (.seq
 (.reg false [⟨(some 4), .mv (.k false [.v (.int .i64 0)]), [], none⟩])
 (.block 0 (.loop (.seq
 (.seq
 (.reg false [⟨(some 10), .mv (.t 4), [], none⟩,
 ⟨(some 11), .bin .lss (.t 10) (.k false [.v (.int .i64 3)]), [0], none⟩])
 (.cond (.t 11)
 (.skip)
 (.exit 0)))
 (.seq
 (.block 1 (.seq
 (.reg false [⟨(some 14), .mv (.t 4), [], none⟩,
 ⟨(some 15), .ixarr 3 1 (.t 3) (.t 14), [0], none⟩,
 ⟨(some 16), .load false 1 (.t 15), [1], none⟩,
 ⟨(some 17), .bin .lss (.t 16) (.k false [.v (.int .i64 (-4608))]), [2], none⟩,
 ⟨(some 18), .mv (.t 17), [3], none⟩,
 ⟨(some 19), .mv (.t 4), [4], (some (18, false))⟩,
 ⟨(some 20), .ixarr 3 1 (.t 3) (.t 19), [5, 4], (some (18, false))⟩,
 ⟨(some 21), .load false 1 (.t 20), [6, 4], (some (18, false))⟩,
 ⟨(some 22), .bin .gtr (.t 21) (.k false [.v (.int .i64 4608)]), [7, 4], (some (18, false))⟩,
 ⟨(some 23), .pick (.t 18) (.k false [.v (.bool true)]) (.t 22), [4, 8], none⟩])
 (.cond (.t 23)
 (.seq
 (.reg false [⟨(some 2), .mv (.k false [.v (.bool false)]), [], none⟩])
 (.ret))
 (.skip))))
 (.reg false [⟨(some 12), .mv (.t 4), [], none⟩,
 ⟨(some 13), .bin .add (.t 12) (.k false [.v (.int .i64 1)]), [0], none⟩,
 ⟨(some 4), .mv (.t 13), [1, 0, 1], none⟩]))))))
 (.seq
 (.reg false [⟨(some 25), .faddr 0 (.t 1), [], none⟩,
 ⟨(some 26), .load true 3 (.t 25), [0], none⟩,
 ⟨(some 27), .call 94 [(.t 26)], [1], none⟩,
 ⟨(some 24), .mv (.t 27), [2], none⟩,
 ⟨(some 28), .ext (.t 24) 0, [3], none⟩,
 ⟨(some 29), .ext (.t 24) 1, [3], none⟩,
 ⟨(some 5), .alloc [.v (.int .i64 0), .v (.int .i64 0), .v (.int .i64 0)], [], none⟩,
 ⟨none, .store 3 (.t 5) (.t 28), [6, 4, 2, 0, 1, 2, 3, 4, 6], none⟩,
 ⟨(some 6), .mv (.t 29), [5, 7, 0, 1, 2, 3, 4, 5, 6, 7], none⟩])
 (.seq
 (.reg false [⟨(some 30), .mv (.t 6), [], none⟩,
 ⟨(some 31), .bin .eql (.t 30) (.k false [.v (.int .i64 1)]), [0], none⟩,
 ⟨(some 32), .mv (.t 31), [1], none⟩,
 ⟨(some 33), .faddr 3 (.t 1), [2], (some (32, true))⟩,
 ⟨(some 34), .load false 1 (.t 33), [3, 2], (some (32, true))⟩,
 ⟨(some 35), .bin .geq (.t 34) (.k false [.v (.int .i64 (-2097152))]), [4, 2], (some (32, true))⟩,
 ⟨(some 36), .pick (.t 32) (.t 35) (.k false [.v (.bool false)]), [2, 5], none⟩,
 ⟨(some 37), .mv (.t 36), [6, 2], none⟩,
 ⟨(some 38), .faddr 3 (.t 1), [7], (some (37, true))⟩,
 ⟨(some 39), .load false 1 (.t 38), [8, 7], (some (37, true))⟩,
 ⟨(some 40), .bin .leq (.t 39) (.k false [.v (.int .i64 2097152)]), [9, 7], (some (37, true))⟩,
 ⟨(some 41), .pick (.t 37) (.t 40) (.k false [.v (.bool false)]), [7, 10], none⟩,
 ⟨(some 2), .mv (.t 41), [11, 7, 0, 1, 2, 3, 4, 5, 6, 7, 8, 9, 10, 11], none⟩])
 (.ret)))))
theorem A96_comp : Tryz.f96.body.bind (comp Tryz.prog Tryz.f96.ntmps []) = some A96 := by kernel_rfl
/- collet/colletref07.components -/
def A113 : ACode :=
 .seq
 (.reg false [⟨(some 1), .box (.t 0), [], none⟩,
 ⟨(some 2), .alloc [.v (.int .i64 0), .v (.int .i64 0), .v (.int .i64 0)], [], none⟩])
 (.seq
 (.reg false [⟨(some 3), .faddr 0 (.t 1), [], none⟩,
 ⟨(some 4), .load false 1 (.t 3), [0], none⟩,
 ⟨(some 5), .faddr 1 (.t 1), [], none⟩,
 ⟨(some 6), .load false 1 (.t 5), [2], none⟩,
 ⟨(some 7), .faddr 2 (.t 1), [], none⟩,
 ⟨(some 8), .load false 1 (.t 7), [4], none⟩,
 ⟨(some 9), .build [.v (.int .i64 0), .v (.int .i64 0), .v (.int .i64 0)] [(0, 1, (.t 4)), (1, 1, (.t 6)), (2, 1, (.t 8))], [1, 3, 5], none⟩,
 ⟨none, .store 3 (.t 2) (.t 9), [6, 0, 1, 2, 3, 4, 5, 6], none⟩])
 (.ret))
theorem A113_comp : Tryz.f113.body.bind (comp Tryz.prog Tryz.f113.ntmps []) = some A113 := by kernel_rfl
/- collet/colletref07.absolute -/
def A114 : ACode :=
 .seq
 (.reg false [⟨(some 2), .mv (.k false [.v (.int .i64 0)]), [], none⟩])
 (.seq
 (.seq
 (.reg false [⟨(some 3), .mv (.t 0), [], none⟩,
 ⟨(some 4), .bin .lss (.t 3) (.k false [.v (.int .i64 0)]), [0], none⟩])
 (.cond (.t 4)
 (.seq
 (.reg false [⟨(some 5), .mv (.t 0), [], none⟩,
 ⟨(some 6), .un .neg (.t 5), [0], none⟩,
 ⟨(some 2), .mv (.t 6), [1, 0, 1], none⟩])
 (.ret))
 (.skip)))
 (.seq
 (.reg false [⟨(some 7), .mv (.t 0), [], none⟩,
 ⟨(some 2), .mv (.t 7), [0, 0], none⟩])
 (.ret)))
theorem A114_comp : Tryz.f114.body.bind (comp Tryz.prog Tryz.f114.ntmps []) = some A114 := by kernel_rfl
end Go.Proofs.YtlbafapmhjfobaaGreatDoor
