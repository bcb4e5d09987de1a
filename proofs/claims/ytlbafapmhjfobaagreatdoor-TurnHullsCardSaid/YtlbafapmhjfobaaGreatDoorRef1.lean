/-
  Contracts: the reference's planes, flatness and made points.
-/
import Derived.Test.YtlbafapmhjfobaaGreatDoorSort
import Derived.Test.YtlbafapmhjfobaaGreatDoorTurn2
import Derived.Test.YtlbafapmhjfobaaGreatDoorHull2
set_option linter.unusedVariables false
set_option linter.unusedSimpArgs false
namespace Go.Proofs.YtlbafapmhjfobaaGreatDoor
set_option maxRecDepth 100000
attribute [local irreducible] LoopW LoopY RngW retPure retFresh retBox retTurn
variable {gl : Nat → Option (List AV)}

theorem comp_spec (v : V3) : Spec Tryz.prog gl 113 none [(true, v.cs)] (.c true v.cs) none := by
  refine spec_plain A113_comp Tryz.func113 Tryz.call113 fol Tryz.ntmps113 Tryz.results113 (argsB_spec rfl) (Nat.le_of_ble_eq_true rfl) (idf_c rfl) ?_
  ((conv => whnf); (repeat (first | (refine ⟨rfl, ?_⟩; (conv => whnf)) | (refine ⟨Nat.le_of_ble_eq_true rfl, ?_⟩; (conv => whnf)))))
  exact retPure_ret rfl rfl
theorem rabs_spec {n : Int} (h : -9223372036854775807 ≤ n ∧ n ≤ 9223372036854775807) : Spec Tryz.prog gl 114 none [(false, [.i n])] (.c false [.i n.natAbs]) none := by
  refine spec_plain A114_comp Tryz.func114 Tryz.call114 fol Tryz.ntmps114 Tryz.results114 (argsB_spec rfl) (Nat.le_of_ble_eq_true rfl) (idf_c rfl) ?_
  ((conv => whnf); (repeat (refine ⟨rfl, ?_⟩; (conv => whnf))))
  refine ⟨fun hn => ?_, fun hn => ?_⟩
  · have hn' := of_decide_eq_true hn
    (conv => whnf)
    refine retPure_ret rfl ?_
    exact eq1 (by rw [wr (by omega)]; omega)
  · have hn' := of_decide_eq_false hn
    (conv => whnf)
    refine retPure_ret rfl ?_
    exact eq1 (by omega)
theorem rin_spec (v : V3) : Spec Tryz.prog gl 93 none [(true, v.cs)] (.c false [.b v.inB]) none := by
  refine spec_plain A93_comp Tryz.func93 Tryz.call93 fol Tryz.ntmps93 Tryz.results93 (argsB_spec rfl) (Nat.le_of_ble_eq_true rfl) (idf_c rfl) ?_
  ((conv => whnf); (repeat (refine ⟨Nat.le_of_ble_eq_true rfl, ?_⟩; (conv => whnf))))
  refine call_pure (comp_spec v) rfl rfl rfl ?_
  ((conv => whnf); (repeat (first | (refine ⟨rfl, ?_⟩; (conv => whnf)) | (refine ⟨Nat.le_of_ble_eq_true rfl, ?_⟩; (conv => whnf)))))
  refine W_round ?_
  ((conv => whnf); (repeat (first | (refine ⟨rfl, ?_⟩; (conv => whnf)) | (refine ⟨Nat.le_of_ble_eq_true rfl, ?_⟩; (conv => whnf)) | (refine ⟨⟨of_decide_eq_true rfl, of_decide_eq_true rfl⟩, ?_⟩; (conv => whnf)) | (refine ⟨fun _ => ?_, fun h => Bool.noConfusion h⟩; (conv => whnf)))))
  cases hx1 : decide (v.x < -24)
  · ((conv => whnf); (repeat (first | (refine ⟨rfl, ?_⟩; (conv => whnf)) | (refine ⟨Nat.le_of_ble_eq_true rfl, ?_⟩; (conv => whnf)) | (refine ⟨⟨of_decide_eq_true rfl, of_decide_eq_true rfl⟩, ?_⟩; (conv => whnf)) | (refine ⟨fun _ => ?_, fun h => Bool.noConfusion h⟩; (conv => whnf)) | (refine ⟨fun h => Bool.noConfusion h, fun _ => ?_⟩; (conv => whnf)))))
    cases hx2 : decide (24 < v.x)
    · ((conv => whnf); (repeat (first | (refine ⟨rfl, ?_⟩; (conv => whnf)) | (refine ⟨fun h => Bool.noConfusion h, fun _ => ?_⟩; (conv => whnf)))))
      refine W_round ?_
      ((conv => whnf); (repeat (first | (refine ⟨rfl, ?_⟩; (conv => whnf)) | (refine ⟨Nat.le_of_ble_eq_true rfl, ?_⟩; (conv => whnf)) | (refine ⟨⟨of_decide_eq_true rfl, of_decide_eq_true rfl⟩, ?_⟩; (conv => whnf)) | (refine ⟨fun _ => ?_, fun h => Bool.noConfusion h⟩; (conv => whnf)))))
      cases hy1 : decide (v.y < -24)
      · ((conv => whnf); (repeat (first | (refine ⟨rfl, ?_⟩; (conv => whnf)) | (refine ⟨Nat.le_of_ble_eq_true rfl, ?_⟩; (conv => whnf)) | (refine ⟨⟨of_decide_eq_true rfl, of_decide_eq_true rfl⟩, ?_⟩; (conv => whnf)) | (refine ⟨fun _ => ?_, fun h => Bool.noConfusion h⟩; (conv => whnf)) | (refine ⟨fun h => Bool.noConfusion h, fun _ => ?_⟩; (conv => whnf)))))
        cases hy2 : decide (24 < v.y)
        · ((conv => whnf); (repeat (first | (refine ⟨rfl, ?_⟩; (conv => whnf)) | (refine ⟨fun h => Bool.noConfusion h, fun _ => ?_⟩; (conv => whnf)))))
          refine W_round ?_
          ((conv => whnf); (repeat (first | (refine ⟨rfl, ?_⟩; (conv => whnf)) | (refine ⟨Nat.le_of_ble_eq_true rfl, ?_⟩; (conv => whnf)) | (refine ⟨⟨of_decide_eq_true rfl, of_decide_eq_true rfl⟩, ?_⟩; (conv => whnf)) | (refine ⟨fun _ => ?_, fun h => Bool.noConfusion h⟩; (conv => whnf)))))
          cases hz1 : decide (v.z < -24)
          · ((conv => whnf); (repeat (first | (refine ⟨rfl, ?_⟩; (conv => whnf)) | (refine ⟨Nat.le_of_ble_eq_true rfl, ?_⟩; (conv => whnf)) | (refine ⟨⟨of_decide_eq_true rfl, of_decide_eq_true rfl⟩, ?_⟩; (conv => whnf)) | (refine ⟨fun _ => ?_, fun h => Bool.noConfusion h⟩; (conv => whnf)) | (refine ⟨fun h => Bool.noConfusion h, fun _ => ?_⟩; (conv => whnf)))))
            cases hz2 : decide (24 < v.z)
            · ((conv => whnf); (repeat (first | (refine ⟨rfl, ?_⟩; (conv => whnf)) | (refine ⟨fun h => Bool.noConfusion h, fun _ => ?_⟩; (conv => whnf)))))
              refine W_round ?_
              ((conv => whnf); (repeat (first | (refine ⟨rfl, ?_⟩; (conv => whnf)) | (refine ⟨fun h => Bool.noConfusion h, fun _ => ?_⟩; (conv => whnf)))))
              refine retPure_ret rfl ?_
              exact eqb (by simp at *; simp [V3.inB, withinI]; omega)
            · ((conv => whnf); (repeat (refine ⟨fun _ => ?_, fun h => Bool.noConfusion h⟩; (conv => whnf))))
              refine retPure_ret rfl ?_
              exact eqb (by simp at *; simp [V3.inB, withinI]; omega)
          · ((conv => whnf); (repeat (first | (refine ⟨fun _ => ?_, fun h => Bool.noConfusion h⟩; (conv => whnf)) | (refine ⟨fun h => Bool.noConfusion h, fun _ => ?_⟩; (conv => whnf)))))
            refine retPure_ret rfl ?_
            exact eqb (by simp at *; simp [V3.inB, withinI]; omega)
        · ((conv => whnf); (repeat (refine ⟨fun _ => ?_, fun h => Bool.noConfusion h⟩; (conv => whnf))))
          refine retPure_ret rfl ?_
          exact eqb (by simp at *; simp [V3.inB, withinI]; omega)
      · ((conv => whnf); (repeat (first | (refine ⟨fun _ => ?_, fun h => Bool.noConfusion h⟩; (conv => whnf)) | (refine ⟨fun h => Bool.noConfusion h, fun _ => ?_⟩; (conv => whnf)))))
        refine retPure_ret rfl ?_
        exact eqb (by simp at *; simp [V3.inB, withinI]; omega)
    · ((conv => whnf); (repeat (refine ⟨fun _ => ?_, fun h => Bool.noConfusion h⟩; (conv => whnf))))
      refine retPure_ret rfl ?_
      exact eqb (by simp at *; simp [V3.inB, withinI]; omega)
  · ((conv => whnf); (repeat (first | (refine ⟨fun _ => ?_, fun h => Bool.noConfusion h⟩; (conv => whnf)) | (refine ⟨fun h => Bool.noConfusion h, fun _ => ?_⟩; (conv => whnf)))))
    refine retPure_ret rfl ?_
    exact eqb (by simp at *; simp [V3.inB, withinI]; omega)
theorem gcd_le3 (v : V3) (hx : -4611686018427387904 ≤ v.x ∧ v.x ≤ 4611686018427387904) (hy : -4611686018427387904 ≤ v.y ∧ v.y ≤ 4611686018427387904) (hz : -4611686018427387904 ≤ v.z ∧ v.z ≤ 4611686018427387904) : v.gcd ≤ 4611686018427387904 := by
  have hg : v.gcd = Nat.gcd (Nat.gcd v.x.natAbs v.y.natAbs) v.z.natAbs := by simp [V3.gcd, gcdL]
  rw [hg]
  by_cases h3 : v.z.natAbs = 0
  · rw [h3, Nat.gcd_zero_right]
    by_cases h2 : v.y.natAbs = 0
    · rw [h2, Nat.gcd_zero_right]; omega
    · have := Nat.gcd_le_right v.x.natAbs (by omega : 0 < v.y.natAbs); omega
  · have := Nat.gcd_le_right (Nat.gcd v.x.natAbs v.y.natAbs) (by omega : 0 < v.z.natAbs); omega
theorem rprim_spec {v : V3} (h : v.bd 4611686018427387904) : Spec Tryz.prog gl 94 none [(true, v.cs)] (.tup [(true, v.prim.1.cs), (false, [.i v.prim.2])]) none := by
  refine spec_plain A94_comp Tryz.func94 Tryz.call94 fol Tryz.ntmps94 Tryz.results94 (argsB_spec rfl) (Nat.le_of_ble_eq_true rfl) (idf_c rfl) ?_
  unfold V3.bd at h
  ((conv => whnf); (repeat (refine ⟨Nat.le_of_ble_eq_true rfl, ?_⟩; (conv => whnf))))
  refine call_pure (comp_spec v) rfl rfl rfl ?_
  ((conv => whnf); (repeat (first | (refine ⟨rfl, ?_⟩; (conv => whnf)) | (refine ⟨Nat.le_of_ble_eq_true rfl, ?_⟩; (conv => whnf)))))
  refine W_round ?_
  ((conv => whnf); (repeat (first | (refine ⟨rfl, ?_⟩; (conv => whnf)) | (refine ⟨Nat.le_of_ble_eq_true rfl, ?_⟩; (conv => whnf)) | (refine ⟨⟨of_decide_eq_true rfl, of_decide_eq_true rfl⟩, ?_⟩; (conv => whnf)) | (refine ⟨fun _ => ?_, fun h => Bool.noConfusion h⟩; (conv => whnf)))))
  have hm0 : (v.x == -9223372036854775808) = false := beq_eq_false_iff_ne.2 (by omega)
  rw [hm0]
  ((conv => whnf); (repeat (first | (refine ⟨Nat.le_of_ble_eq_true rfl, ?_⟩; (conv => whnf)) | (refine ⟨⟨of_decide_eq_true rfl, of_decide_eq_true rfl⟩, ?_⟩; (conv => whnf)) | (refine ⟨fun h => Bool.noConfusion h, fun _ => ?_⟩; (conv => whnf)))))
  refine call_pure (rabs_spec ⟨by omega, by omega⟩) rfl rfl rfl ?_
  (conv => whnf)
  refine W_loop (fun q : Nat × Nat => Nat.gcd q.1 q.2 = gcdL ([v.x, v.y, v.z].take 1))
    (fun q => mk [(1, .c false [.ptr 1 0]), (2, .c false [.ptr 2 0]), (4, .c false [.ptr 6 0]), (5, .c false [.i q.1]), (6, .c false [.i 0]), (7, .c false [.i q.2])] [(1, .box v.cs), (2, .box [.i 0, .i 0, .i 0]), (6, .box v.cs)] 100)
    (fun q => q.2) (gcdL ([v.x, v.y, v.z].take 0), v.x.natAbs) (by simp [gcdL]) (.to ⟨rfl, rfl, rfl, rfl, rfl, rfl, trivial⟩ ⟨rfl, rfl, rfl, trivial⟩ rfl rfl) ?_
  rintro ⟨g0, n0⟩ hg0
  ((conv => whnf); (repeat (refine ⟨rfl, ?_⟩; (conv => whnf))))
  refine ⟨fun hn => ?_, fun hn => ?_⟩
  · have hn' : 0 < n0 := by simpa using hn
    ((conv => whnf); (repeat (refine ⟨rfl, ?_⟩; (conv => whnf))))
    refine ⟨by omega, ?_⟩
    ((conv => whnf); (repeat (refine ⟨(by kernel_rfl : chk _ _ = true), ?_⟩; (conv => whnf))))
    refine ⟨(n0, g0 % n0), ?_, Nat.mod_lt _ hn', .to ⟨rfl, rfl, rfl, rfl, rfl, eq1 rfl, trivial⟩ ⟨rfl, rfl, rfl, trivial⟩ rfl rfl⟩
    rw [← hg0, Nat.gcd_comm g0 n0, Nat.gcd_rec n0 g0, Nat.gcd_comm]
  · have hn' : n0 = 0 := by simpa using hn
    subst hn'
    have hg0' : g0 = gcdL ([v.x, v.y, v.z].take 1) := by rw [← hg0, Nat.gcd_zero_right]
    subst hg0'
    ((conv => whnf); (repeat (refine ⟨rfl, ?_⟩; (conv => whnf))))
    refine W_round ?_
    ((conv => whnf); (repeat (first | (refine ⟨rfl, ?_⟩; (conv => whnf)) | (refine ⟨Nat.le_of_ble_eq_true rfl, ?_⟩; (conv => whnf)) | (refine ⟨⟨of_decide_eq_true rfl, of_decide_eq_true rfl⟩, ?_⟩; (conv => whnf)) | (refine ⟨fun _ => ?_, fun h => Bool.noConfusion h⟩; (conv => whnf)))))
    have hm1 : (v.y == -9223372036854775808) = false := beq_eq_false_iff_ne.2 (by omega)
    rw [hm1]
    ((conv => whnf); (repeat (first | (refine ⟨Nat.le_of_ble_eq_true rfl, ?_⟩; (conv => whnf)) | (refine ⟨⟨of_decide_eq_true rfl, of_decide_eq_true rfl⟩, ?_⟩; (conv => whnf)) | (refine ⟨fun h => Bool.noConfusion h, fun _ => ?_⟩; (conv => whnf)))))
    refine call_pure (rabs_spec ⟨by omega, by omega⟩) rfl rfl rfl ?_
    (conv => whnf)
    refine W_loop (fun q : Nat × Nat => Nat.gcd q.1 q.2 = gcdL ([v.x, v.y, v.z].take 2))
      (fun q => mk [(1, .c false [.ptr 1 0]), (2, .c false [.ptr 2 0]), (4, .c false [.ptr 6 0]), (5, .c false [.i q.1]), (6, .c false [.i 1]), (7, .c false [.i q.2])] [(1, .box v.cs), (2, .box [.i 0, .i 0, .i 0]), (6, .box v.cs)] 100)
      (fun q => q.2) (gcdL ([v.x, v.y, v.z].take 1), v.y.natAbs) (by simp [gcdL]) (.to ⟨rfl, rfl, rfl, rfl, rfl, rfl, trivial⟩ ⟨rfl, rfl, rfl, trivial⟩ rfl rfl) ?_
    rintro ⟨g1, n1⟩ hg1
    ((conv => whnf); (repeat (refine ⟨rfl, ?_⟩; (conv => whnf))))
    refine ⟨fun hn => ?_, fun hn => ?_⟩
    · have hn' : 0 < n1 := by simpa using hn
      ((conv => whnf); (repeat (refine ⟨rfl, ?_⟩; (conv => whnf))))
      refine ⟨by omega, ?_⟩
      ((conv => whnf); (repeat (refine ⟨(by kernel_rfl : chk _ _ = true), ?_⟩; (conv => whnf))))
      refine ⟨(n1, g1 % n1), ?_, Nat.mod_lt _ hn', .to ⟨rfl, rfl, rfl, rfl, rfl, eq1 rfl, trivial⟩ ⟨rfl, rfl, rfl, trivial⟩ rfl rfl⟩
      rw [← hg1, Nat.gcd_comm g1 n1, Nat.gcd_rec n1 g1, Nat.gcd_comm]
    · have hn' : n1 = 0 := by simpa using hn
      subst hn'
      have hg1' : g1 = gcdL ([v.x, v.y, v.z].take 2) := by rw [← hg1, Nat.gcd_zero_right]
      subst hg1'
      ((conv => whnf); (repeat (refine ⟨rfl, ?_⟩; (conv => whnf))))
      refine W_round ?_
      ((conv => whnf); (repeat (first | (refine ⟨rfl, ?_⟩; (conv => whnf)) | (refine ⟨Nat.le_of_ble_eq_true rfl, ?_⟩; (conv => whnf)) | (refine ⟨⟨of_decide_eq_true rfl, of_decide_eq_true rfl⟩, ?_⟩; (conv => whnf)) | (refine ⟨fun _ => ?_, fun h => Bool.noConfusion h⟩; (conv => whnf)))))
      have hm2 : (v.z == -9223372036854775808) = false := beq_eq_false_iff_ne.2 (by omega)
      rw [hm2]
      ((conv => whnf); (repeat (first | (refine ⟨Nat.le_of_ble_eq_true rfl, ?_⟩; (conv => whnf)) | (refine ⟨⟨of_decide_eq_true rfl, of_decide_eq_true rfl⟩, ?_⟩; (conv => whnf)) | (refine ⟨fun h => Bool.noConfusion h, fun _ => ?_⟩; (conv => whnf)))))
      refine call_pure (rabs_spec ⟨by omega, by omega⟩) rfl rfl rfl ?_
      (conv => whnf)
      refine W_loop (fun q : Nat × Nat => Nat.gcd q.1 q.2 = gcdL ([v.x, v.y, v.z].take 3))
        (fun q => mk [(1, .c false [.ptr 1 0]), (2, .c false [.ptr 2 0]), (4, .c false [.ptr 6 0]), (5, .c false [.i q.1]), (6, .c false [.i 2]), (7, .c false [.i q.2])] [(1, .box v.cs), (2, .box [.i 0, .i 0, .i 0]), (6, .box v.cs)] 100)
        (fun q => q.2) (gcdL ([v.x, v.y, v.z].take 2), v.z.natAbs) (by simp [gcdL]) (.to ⟨rfl, rfl, rfl, rfl, rfl, rfl, trivial⟩ ⟨rfl, rfl, rfl, trivial⟩ rfl rfl) ?_
      rintro ⟨g2, n2⟩ hg2
      ((conv => whnf); (repeat (refine ⟨rfl, ?_⟩; (conv => whnf))))
      refine ⟨fun hn => ?_, fun hn => ?_⟩
      · have hn' : 0 < n2 := by simpa using hn
        ((conv => whnf); (repeat (refine ⟨rfl, ?_⟩; (conv => whnf))))
        refine ⟨by omega, ?_⟩
        ((conv => whnf); (repeat (refine ⟨(by kernel_rfl : chk _ _ = true), ?_⟩; (conv => whnf))))
        refine ⟨(n2, g2 % n2), ?_, Nat.mod_lt _ hn', .to ⟨rfl, rfl, rfl, rfl, rfl, eq1 rfl, trivial⟩ ⟨rfl, rfl, rfl, trivial⟩ rfl rfl⟩
        rw [← hg2, Nat.gcd_comm g2 n2, Nat.gcd_rec n2 g2, Nat.gcd_comm]
      · have hn' : n2 = 0 := by simpa using hn
        subst hn'
        have hg2' : g2 = gcdL ([v.x, v.y, v.z].take 3) := by rw [← hg2, Nat.gcd_zero_right]
        subst hg2'
        ((conv => whnf); (repeat (refine ⟨rfl, ?_⟩; (conv => whnf))))
        refine W_round ?_
        ((conv => whnf); (repeat (first | (refine ⟨rfl, ?_⟩; (conv => whnf)) | (refine ⟨fun h => Bool.noConfusion h, fun _ => ?_⟩; (conv => whnf)))))
        have hgg : gcdL ([v.x, v.y, v.z].take (2 + 1)) = v.gcd := rfl
        rw [hgg]
        by_cases hz : v.gcd = 0
        · rw [hz]
          ((conv => whnf); (repeat (first | (refine ⟨rfl, ?_⟩; (conv => whnf)) | (refine ⟨Nat.le_of_ble_eq_true rfl, ?_⟩; (conv => whnf)) | (refine ⟨fun _ => ?_, fun h => Bool.noConfusion h⟩; (conv => whnf)))))
          refine retPure_ret rfl ?_
          simp only [V3.prim, hz, if_true]
          rfl
        · have hzb : ((v.gcd : Int) == 0) = false := beq_eq_false_iff_ne.2 (by omega)
          have hgb := gcd_le3 v h.1 h.2.1 h.2.2
          refine ⟨fun h' => absurd (hzb.symm.trans h') Bool.false_ne_true, fun _ => ?_⟩
          ((conv => whnf); (repeat (first | (refine ⟨rfl, ?_⟩; (conv => whnf)) | (refine ⟨Nat.le_of_ble_eq_true rfl, ?_⟩; (conv => whnf)))))
          refine ⟨by omega, ?_⟩
          ((conv => whnf); (repeat (first | (refine ⟨rfl, ?_⟩; (conv => whnf)) | (refine ⟨Nat.le_of_ble_eq_true rfl, ?_⟩; (conv => whnf)))))
          refine ⟨by omega, ?_⟩
          ((conv => whnf); (repeat (first | (refine ⟨rfl, ?_⟩; (conv => whnf)) | (refine ⟨Nat.le_of_ble_eq_true rfl, ?_⟩; (conv => whnf)))))
          refine ⟨by omega, ?_⟩
          ((conv => whnf); (repeat (first | (refine ⟨(by kernel_rfl : chk _ _ = true), ?_⟩; (conv => whnf)) | (refine ⟨rfl, ?_⟩; (conv => whnf)) | (refine ⟨Nat.le_of_ble_eq_true rfl, ?_⟩; (conv => whnf)))))
          refine retPure_ret rfl ?_
          have hd := div_bd (a := v) (g := (v.gcd : Int)) (k := 4611686018427387904) ⟨h.1, h.2.1, h.2.2⟩
          unfold V3.bd V3.div at hd
          simp only at hd
          simp only [V3.prim, hz, if_false, V3.div]
          rw [wr (by omega), wr (by omega), wr (by omega)]
          rfl
theorem rvalid_spec (p : Pl) : Spec Tryz.prog gl 96 none [(true, p.cs)] (.c false [.b p.okB]) none := by
  refine spec_plain A96_comp Tryz.func96 Tryz.call96 fol Tryz.ntmps96 Tryz.results96 (argsB_spec rfl) (Nat.le_of_ble_eq_true rfl) (idf_c rfl) ?_
  ((conv => whnf); (repeat (refine ⟨Nat.le_of_ble_eq_true rfl, ?_⟩; (conv => whnf))))
  refine call_pure (comp_spec p.n) rfl rfl rfl ?_
  ((conv => whnf); (repeat (first | (refine ⟨rfl, ?_⟩; (conv => whnf)) | (refine ⟨Nat.le_of_ble_eq_true rfl, ?_⟩; (conv => whnf)))))
  refine W_round ?_
  ((conv => whnf); (repeat (first | (refine ⟨rfl, ?_⟩; (conv => whnf)) | (refine ⟨Nat.le_of_ble_eq_true rfl, ?_⟩; (conv => whnf)) | (refine ⟨⟨of_decide_eq_true rfl, of_decide_eq_true rfl⟩, ?_⟩; (conv => whnf)) | (refine ⟨fun _ => ?_, fun h => Bool.noConfusion h⟩; (conv => whnf)))))
  cases hx1 : decide (p.n.x < -4608)
  · ((conv => whnf); (repeat (first | (refine ⟨rfl, ?_⟩; (conv => whnf)) | (refine ⟨Nat.le_of_ble_eq_true rfl, ?_⟩; (conv => whnf)) | (refine ⟨⟨of_decide_eq_true rfl, of_decide_eq_true rfl⟩, ?_⟩; (conv => whnf)) | (refine ⟨fun _ => ?_, fun h => Bool.noConfusion h⟩; (conv => whnf)) | (refine ⟨fun h => Bool.noConfusion h, fun _ => ?_⟩; (conv => whnf)))))
    cases hx2 : decide (4608 < p.n.x)
    · ((conv => whnf); (repeat (first | (refine ⟨rfl, ?_⟩; (conv => whnf)) | (refine ⟨fun h => Bool.noConfusion h, fun _ => ?_⟩; (conv => whnf)))))
      refine W_round ?_
      ((conv => whnf); (repeat (first | (refine ⟨rfl, ?_⟩; (conv => whnf)) | (refine ⟨Nat.le_of_ble_eq_true rfl, ?_⟩; (conv => whnf)) | (refine ⟨⟨of_decide_eq_true rfl, of_decide_eq_true rfl⟩, ?_⟩; (conv => whnf)) | (refine ⟨fun _ => ?_, fun h => Bool.noConfusion h⟩; (conv => whnf)))))
      cases hy1 : decide (p.n.y < -4608)
      · ((conv => whnf); (repeat (first | (refine ⟨rfl, ?_⟩; (conv => whnf)) | (refine ⟨Nat.le_of_ble_eq_true rfl, ?_⟩; (conv => whnf)) | (refine ⟨⟨of_decide_eq_true rfl, of_decide_eq_true rfl⟩, ?_⟩; (conv => whnf)) | (refine ⟨fun _ => ?_, fun h => Bool.noConfusion h⟩; (conv => whnf)) | (refine ⟨fun h => Bool.noConfusion h, fun _ => ?_⟩; (conv => whnf)))))
        cases hy2 : decide (4608 < p.n.y)
        · ((conv => whnf); (repeat (first | (refine ⟨rfl, ?_⟩; (conv => whnf)) | (refine ⟨fun h => Bool.noConfusion h, fun _ => ?_⟩; (conv => whnf)))))
          refine W_round ?_
          ((conv => whnf); (repeat (first | (refine ⟨rfl, ?_⟩; (conv => whnf)) | (refine ⟨Nat.le_of_ble_eq_true rfl, ?_⟩; (conv => whnf)) | (refine ⟨⟨of_decide_eq_true rfl, of_decide_eq_true rfl⟩, ?_⟩; (conv => whnf)) | (refine ⟨fun _ => ?_, fun h => Bool.noConfusion h⟩; (conv => whnf)))))
          cases hz1 : decide (p.n.z < -4608)
          · ((conv => whnf); (repeat (first | (refine ⟨rfl, ?_⟩; (conv => whnf)) | (refine ⟨Nat.le_of_ble_eq_true rfl, ?_⟩; (conv => whnf)) | (refine ⟨⟨of_decide_eq_true rfl, of_decide_eq_true rfl⟩, ?_⟩; (conv => whnf)) | (refine ⟨fun _ => ?_, fun h => Bool.noConfusion h⟩; (conv => whnf)) | (refine ⟨fun h => Bool.noConfusion h, fun _ => ?_⟩; (conv => whnf)))))
            cases hz2 : decide (4608 < p.n.z)
            · ((conv => whnf); (repeat (first | (refine ⟨rfl, ?_⟩; (conv => whnf)) | (refine ⟨fun h => Bool.noConfusion h, fun _ => ?_⟩; (conv => whnf)))))
              refine W_round ?_
              ((conv => whnf); (repeat (first | (refine ⟨rfl, ?_⟩; (conv => whnf)) | (refine ⟨Nat.le_of_ble_eq_true rfl, ?_⟩; (conv => whnf)) | (refine ⟨fun h => Bool.noConfusion h, fun _ => ?_⟩; (conv => whnf)))))
              simp only [decide_eq_false_iff_not] at hx1 hx2 hy1 hy2 hz1 hz2
              refine call_pure (rprim_spec (v := p.n) ⟨⟨by omega, by omega⟩, ⟨by omega, by omega⟩, ⟨by omega, by omega⟩⟩) rfl rfl rfl ?_
              ((conv => whnf); (repeat (first | (refine ⟨rfl, ?_⟩; (conv => whnf)) | (refine ⟨Nat.le_of_ble_eq_true rfl, ?_⟩; (conv => whnf)))))
              have hp2 : p.n.prim.2 = (p.n.gcd : Int) := by unfold V3.prim; split <;> simp_all
              rw [hp2]
              have hw : withinI 4608 [p.n.x, p.n.y, p.n.z] = true := by simp [withinI]; omega
              cases hg : ((p.n.gcd : Int) == 1)
              · ((conv => whnf); (repeat (refine ⟨fun h => Bool.noConfusion h, fun _ => ?_⟩; (conv => whnf))))
                refine retPure_ret rfl ?_
                have hg' : (p.n.gcd == 1) = false := by simp at hg ⊢; omega
                exact eqb (by rw [Pl.okB, hg']; simp)
              · have hg' : (p.n.gcd == 1) = true := by simp at hg ⊢; omega
                ((conv => whnf); (repeat (first | (refine ⟨rfl, ?_⟩; (conv => whnf)) | (refine ⟨Nat.le_of_ble_eq_true rfl, ?_⟩; (conv => whnf)) | (refine ⟨fun _ => ?_, fun h => Bool.noConfusion h⟩; (conv => whnf)))))
                cases hb1 : decide (-2097152 ≤ p.b)
                · ((conv => whnf); (repeat (refine ⟨fun h => Bool.noConfusion h, fun _ => ?_⟩; (conv => whnf))))
                  refine retPure_ret rfl ?_
                  exact eqb (by rw [Pl.okB, hw, hg']; simp at hb1; simp [withinI]; omega)
                · ((conv => whnf); (repeat (first | (refine ⟨rfl, ?_⟩; (conv => whnf)) | (refine ⟨Nat.le_of_ble_eq_true rfl, ?_⟩; (conv => whnf)) | (refine ⟨fun _ => ?_, fun h => Bool.noConfusion h⟩; (conv => whnf)))))
                  refine retPure_ret rfl ?_
                  exact eqb (by rw [Pl.okB, hw, hg']; simp at hb1; simp [withinI, hb1])
            · ((conv => whnf); (repeat (refine ⟨fun _ => ?_, fun h => Bool.noConfusion h⟩; (conv => whnf))))
              refine retPure_ret rfl ?_
              exact eqb (by simp at *; simp [Pl.okB, withinI]; omega)
          · ((conv => whnf); (repeat (first | (refine ⟨fun _ => ?_, fun h => Bool.noConfusion h⟩; (conv => whnf)) | (refine ⟨fun h => Bool.noConfusion h, fun _ => ?_⟩; (conv => whnf)))))
            refine retPure_ret rfl ?_
            exact eqb (by simp at *; simp [Pl.okB, withinI]; omega)
        · ((conv => whnf); (repeat (refine ⟨fun _ => ?_, fun h => Bool.noConfusion h⟩; (conv => whnf))))
          refine retPure_ret rfl ?_
          exact eqb (by simp at *; simp [Pl.okB, withinI]; omega)
      · ((conv => whnf); (repeat (first | (refine ⟨fun _ => ?_, fun h => Bool.noConfusion h⟩; (conv => whnf)) | (refine ⟨fun h => Bool.noConfusion h, fun _ => ?_⟩; (conv => whnf)))))
        refine retPure_ret rfl ?_
        exact eqb (by simp at *; simp [Pl.okB, withinI]; omega)
    · ((conv => whnf); (repeat (refine ⟨fun _ => ?_, fun h => Bool.noConfusion h⟩; (conv => whnf))))
      refine retPure_ret rfl ?_
      exact eqb (by simp at *; simp [Pl.okB, withinI]; omega)
  · ((conv => whnf); (repeat (first | (refine ⟨fun _ => ?_, fun h => Bool.noConfusion h⟩; (conv => whnf)) | (refine ⟨fun h => Bool.noConfusion h, fun _ => ?_⟩; (conv => whnf)))))
    refine retPure_ret rfl ?_
    exact eqb (by simp at *; simp [Pl.okB, withinI]; omega)
theorem rthrough_spec (a b c : V3) : Spec Tryz.prog gl 66 none [(true, a.cs), (true, b.cs), (true, c.cs)] (.tup [(true, (through a b c).1.cs), (false, [.b (through a b c).2])]) none := by
  refine spec_plain A66_comp Tryz.func66 Tryz.call66 fol Tryz.ntmps66 Tryz.results66 (argsB_spec rfl) (Nat.le_of_ble_eq_true rfl) (idf_c rfl) ?_
  ((conv => whnf); (repeat (refine ⟨Nat.le_of_ble_eq_true rfl, ?_⟩; (conv => whnf))))
  refine call_pure (rin_spec a) rfl rfl rfl ?_
  (conv => whnf)
  cases ha : a.inB
  · ((conv => whnf); (repeat (first | (refine ⟨rfl, ?_⟩; (conv => whnf)) | (refine ⟨Nat.le_of_ble_eq_true rfl, ?_⟩; (conv => whnf)) | (refine ⟨fun _ => ?_, fun h => Bool.noConfusion h⟩; (conv => whnf)) | (refine ⟨fun h => Bool.noConfusion h, fun _ => ?_⟩; (conv => whnf)))))
    refine retPure_ret rfl ?_
    rw [through, ha]; rfl
  · ((conv => whnf); (repeat (first | (refine ⟨Nat.le_of_ble_eq_true rfl, ?_⟩; (conv => whnf)) | (refine ⟨fun _ => ?_, fun h => Bool.noConfusion h⟩; (conv => whnf)))))
    refine call_pure (rin_spec b) rfl rfl rfl ?_
    ((conv => whnf); (repeat (first | (refine ⟨fun _ => ?_, fun h => Bool.noConfusion h⟩; (conv => whnf)) | (refine ⟨fun h => Bool.noConfusion h, fun _ => ?_⟩; (conv => whnf)))))
    cases hb : b.inB
    · ((conv => whnf); (repeat (first | (refine ⟨rfl, ?_⟩; (conv => whnf)) | (refine ⟨Nat.le_of_ble_eq_true rfl, ?_⟩; (conv => whnf)) | (refine ⟨fun _ => ?_, fun h => Bool.noConfusion h⟩; (conv => whnf)) | (refine ⟨fun h => Bool.noConfusion h, fun _ => ?_⟩; (conv => whnf)))))
      refine retPure_ret rfl ?_
      rw [through, ha, hb]; rfl
    · ((conv => whnf); (repeat (first | (refine ⟨Nat.le_of_ble_eq_true rfl, ?_⟩; (conv => whnf)) | (refine ⟨fun _ => ?_, fun h => Bool.noConfusion h⟩; (conv => whnf)))))
      refine call_pure (rin_spec c) rfl rfl rfl ?_
      ((conv => whnf); (repeat (first | (refine ⟨fun _ => ?_, fun h => Bool.noConfusion h⟩; (conv => whnf)) | (refine ⟨fun h => Bool.noConfusion h, fun _ => ?_⟩; (conv => whnf)))))
      cases hc : c.inB
      · ((conv => whnf); (repeat (first | (refine ⟨rfl, ?_⟩; (conv => whnf)) | (refine ⟨Nat.le_of_ble_eq_true rfl, ?_⟩; (conv => whnf)) | (refine ⟨fun _ => ?_, fun h => Bool.noConfusion h⟩; (conv => whnf)))))
        refine retPure_ret rfl ?_
        rw [through, ha, hb, hc]; rfl
      · ((conv => whnf); (repeat (first | (refine ⟨Nat.le_of_ble_eq_true rfl, ?_⟩; (conv => whnf)) | (refine ⟨fun h => Bool.noConfusion h, fun _ => ?_⟩; (conv => whnf)))))
        have ba := inB_bd ha
        have bb := inB_bd hb
        have bc := inB_bd hc
        have b1 := sub_bd bb ba
        have b2 := sub_bd bc ba
        have b3 := cross_bd b1 b2
        have b4 := prim_bd b3
        refine call_pure (rsub_spec (bb.mono (by omega)) (ba.mono (by omega))) rfl rfl rfl ?_
        ((conv => whnf); (repeat (refine ⟨Nat.le_of_ble_eq_true rfl, ?_⟩; (conv => whnf))))
        refine call_pure (rsub_spec (bc.mono (by omega)) (ba.mono (by omega))) rfl rfl rfl ?_
        (conv => whnf)
        refine call_pure (rcross_spec (b1.mono (by omega)) (b2.mono (by omega))) rfl rfl rfl ?_
        (conv => whnf)
        refine call_pure (rprim_spec (b3.mono (by omega))) rfl rfl rfl ?_
        ((conv => whnf); (repeat (first | (refine ⟨(by kernel_rfl : chk _ _ = true), ?_⟩; (conv => whnf)) | (refine ⟨rfl, ?_⟩; (conv => whnf)) | (refine ⟨Nat.le_of_ble_eq_true rfl, ?_⟩; (conv => whnf)))))
        have hthr : through a b c = (⟨((b.sub a).cross (c.sub a)).prim.1, ((b.sub a).cross (c.sub a)).prim.1.dot a⟩, decide (0 < ((b.sub a).cross (c.sub a)).prim.2)) := by
          rw [through, ha, hb, hc]; rfl
        rw [hthr]
        cases hz : (((b.sub a).cross (c.sub a)).prim.2 == 0)
        · ((conv => whnf); (repeat (first | (refine ⟨Nat.le_of_ble_eq_true rfl, ?_⟩; (conv => whnf)) | (refine ⟨fun h => Bool.noConfusion h, fun _ => ?_⟩; (conv => whnf)))))
          refine call_pure (rdot_spec (b4.mono (by omega)) (ba.mono (by omega))) rfl rfl rfl ?_
          ((conv => whnf); (repeat (first | (refine ⟨(by kernel_rfl : chk _ _ = true), ?_⟩; (conv => whnf)) | (refine ⟨rfl, ?_⟩; (conv => whnf)) | (refine ⟨Nat.le_of_ble_eq_true rfl, ?_⟩; (conv => whnf)))))
          refine retPure_ret rfl ?_
          have : 0 < ((b.sub a).cross (c.sub a)).prim.2 := by
            have h1 : ((b.sub a).cross (c.sub a)).prim.2 ≠ 0 := by simpa using hz
            unfold V3.prim at h1 ⊢
            split <;> simp_all
            omega
          simp only [this, decide_true]
          rfl
        · ((conv => whnf); (repeat (first | (refine ⟨rfl, ?_⟩; (conv => whnf)) | (refine ⟨Nat.le_of_ble_eq_true rfl, ?_⟩; (conv => whnf)) | (refine ⟨fun _ => ?_, fun h => Bool.noConfusion h⟩; (conv => whnf)))))
          refine retPure_ret rfl ?_
          have h1 : ((b.sub a).cross (c.sub a)).gcd = 0 := by
            unfold V3.prim at hz
            split at hz
            · assumption
            · simp at hz; assumption
          have hd0 : V3.dot ⟨0, 0, 0⟩ a = 0 := by simp [V3.dot]
          simp only [V3.prim, h1, if_true, hd0]
          rfl
theorem rside_spec (p : Pl) (v : V3) : Spec Tryz.prog gl 67 none [(true, p.cs), (true, v.cs)] (.c false [.i (side p v)]) none := by
  refine spec_plain A67_comp Tryz.func67 Tryz.call67 fol Tryz.ntmps67 Tryz.results67 (argsB_spec rfl) (Nat.le_of_ble_eq_true rfl) (idf_c rfl) ?_
  ((conv => whnf); (repeat (refine ⟨Nat.le_of_ble_eq_true rfl, ?_⟩; (conv => whnf))))
  refine call_pure (rvalid_spec p) rfl rfl rfl ?_
  (conv => whnf)
  cases hp : p.okB
  · ((conv => whnf); (repeat (first | (refine ⟨fun _ => ?_, fun h => Bool.noConfusion h⟩; (conv => whnf)) | (refine ⟨fun h => Bool.noConfusion h, fun _ => ?_⟩; (conv => whnf)))))
    refine retPure_ret rfl ?_
    rw [side, hp]; rfl
  · ((conv => whnf); (repeat (first | (refine ⟨Nat.le_of_ble_eq_true rfl, ?_⟩; (conv => whnf)) | (refine ⟨fun _ => ?_, fun h => Bool.noConfusion h⟩; (conv => whnf)))))
    refine call_pure (rin_spec v) rfl rfl rfl ?_
    ((conv => whnf); (repeat (first | (refine ⟨fun _ => ?_, fun h => Bool.noConfusion h⟩; (conv => whnf)) | (refine ⟨fun h => Bool.noConfusion h, fun _ => ?_⟩; (conv => whnf)))))
    cases hv : v.inB
    · ((conv => whnf); (repeat (refine ⟨fun _ => ?_, fun h => Bool.noConfusion h⟩; (conv => whnf))))
      refine retPure_ret rfl ?_
      rw [side, hp, hv]; rfl
    · ((conv => whnf); (repeat (first | (refine ⟨Nat.le_of_ble_eq_true rfl, ?_⟩; (conv => whnf)) | (refine ⟨fun h => Bool.noConfusion h, fun _ => ?_⟩; (conv => whnf)))))
      have hpb := okB_bd hp
      have hd := dot_bd hpb.1 (inB_bd hv)
      refine call_pure (rdot_spec (a := p.n) (hpb.1.mono (by omega)) ((inB_bd hv).mono (by omega))) rfl rfl rfl ?_
      ((conv => whnf); (repeat (first | (refine ⟨(by kernel_rfl : chk _ _ = true), ?_⟩; (conv => whnf)) | (refine ⟨rfl, ?_⟩; (conv => whnf)) | (refine ⟨Nat.le_of_ble_eq_true rfl, ?_⟩; (conv => whnf)))))
      have hside : side p v = ordI (p.n.dot v) p.b := by rw [side, hp, hv]; rfl
      have hw : IntKind.i64.wrap (p.n.dot v - p.b) = p.n.dot v - p.b := wr ⟨by omega, by omega⟩
      rw [hw, hside]
      cases h1 : decide (p.n.dot v - p.b < 0)
      · have h1' := of_decide_eq_false h1
        ((conv => whnf); (repeat (first | (refine ⟨rfl, ?_⟩; (conv => whnf)) | (refine ⟨fun h => Bool.noConfusion h, fun _ => ?_⟩; (conv => whnf)))))
        cases h2 : decide (0 < p.n.dot v - p.b)
        · have h2' := of_decide_eq_false h2
          ((conv => whnf); (repeat (refine ⟨fun h => Bool.noConfusion h, fun _ => ?_⟩; (conv => whnf))))
          refine retPure_ret rfl ?_
          exact eq1 (by unfold ordI; split <;> (try split) <;> omega)
        · have h2' := of_decide_eq_true h2
          ((conv => whnf); (repeat (refine ⟨fun _ => ?_, fun h => Bool.noConfusion h⟩; (conv => whnf))))
          refine retPure_ret rfl ?_
          exact eq1 (by unfold ordI; split <;> (try split) <;> omega)
      · have h1' := of_decide_eq_true h1
        ((conv => whnf); (repeat (refine ⟨fun _ => ?_, fun h => Bool.noConfusion h⟩; (conv => whnf))))
        refine retPure_ret rfl ?_
        exact eq1 (by unfold ordI; split <;> (try split) <;> omega)
end Go.Proofs.YtlbafapmhjfobaaGreatDoor
namespace Go.Proofs.YtlbafapmhjfobaaGreatDoor
set_option maxRecDepth 100000
attribute [local irreducible] LoopW LoopY RngW retPure retFresh retBox retTurn
variable {gl : Nat → Option (List AV)}

theorem vat {xs : List V3} {i : Int} {j : Nat} (hj : i.toNat = j) (h : j < xs.length) : (vcs xs).getD i.toNat [] = (xs.getD j ⟨0, 0, 0⟩).cs := by
  subst hj; simp [h]
def rbad (xs : List V3) (i j k : Nat) : Bool :=
  (through (xs.getD i ⟨0, 0, 0⟩) (xs.getD j ⟨0, 0, 0⟩) (xs.getD k ⟨0, 0, 0⟩)).2 && xs.any fun v => side (through (xs.getD i ⟨0, 0, 0⟩) (xs.getD j ⟨0, 0, 0⟩) (xs.getD k ⟨0, 0, 0⟩)).1 v != 0
def rbad3 (xs : List V3) (i j n : Nat) : Bool := (List.range n).any fun k => rbad xs i j k
def rbad2 (xs : List V3) (i n : Nat) : Bool := (List.range n).any fun j => rbad3 xs i j j
def rbad1 (xs : List V3) (n : Nat) : Bool := (List.range n).any fun i => rbad2 xs i i
def rflatB (xs : List V3) : Bool := !rbad1 xs xs.length
theorem rbad3_succ (xs : List V3) (i j n : Nat) : rbad3 xs i j (n + 1) = (rbad3 xs i j n || rbad xs i j n) := by simp [rbad3, List.range_succ]
theorem rbad2_succ (xs : List V3) (i n : Nat) : rbad2 xs i (n + 1) = (rbad2 xs i n || rbad3 xs i n n) := by simp [rbad2, List.range_succ]
theorem rbad1_succ (xs : List V3) (n : Nat) : rbad1 xs (n + 1) = (rbad1 xs n || rbad2 xs n n) := by simp [rbad1, List.range_succ]
theorem rbad_all {xs : List V3} {i j k : Nat} (hi : i < xs.length) (hj : j < i) (hk : k < j) (h : rbad xs i j k = true) : rflatB xs = false := by
  unfold rflatB
  simp only [Bool.not_eq_false']
  exact List.any_eq_true.2 ⟨i, List.mem_range.2 hi, List.any_eq_true.2 ⟨j, List.mem_range.2 hj, List.any_eq_true.2 ⟨k, List.mem_range.2 hk, h⟩⟩⟩
theorem rflat_spec {xs : List V3} (hx : xs.length ≤ 1000000) : Spec Tryz.prog gl 28 none [(false, [.li 3 (vcs xs)])] (.c false [.b (rflatB xs)]) none := by
  refine spec_plain A28_comp Tryz.func28 Tryz.call28 fol Tryz.ntmps28 Tryz.results28 (argsB_spec rfl) (Nat.le_of_ble_eq_true rfl) (idf_c rfl) ?_
  (conv => whnf)
  refine W_loop (fun i : Nat => i ≤ xs.length ∧ rbad1 xs i = false) (fun i => mk [(0, .c false [.li 3 (vcs xs)]), (3, .c false [.i i])] [] 100) (fun i => xs.length - i) 0 ⟨by simp, rfl⟩ (.to ⟨rfl, rfl, trivial⟩ trivial rfl rfl) ?_
  rintro i ⟨hi, hb1⟩
  ((conv => whnf); (repeat (refine ⟨rfl, ?_⟩; (conv => whnf))))
  refine ⟨fun hlt => ?_, fun hge => ?_⟩
  · have hlt1 : i < xs.length := by have := of_decide_eq_true hlt; simp at this; omega
    (conv => whnf)
    refine W_loop (fun j : Nat => j ≤ i ∧ rbad2 xs i j = false) (fun j => mk [(0, .c false [.li 3 (vcs xs)]), (3, .c false [.i i]), (4, .c false [.i j])] [] 100) (fun j => i - j) 0 ⟨by simp, rfl⟩ (.to ⟨rfl, rfl, rfl, trivial⟩ trivial rfl rfl) ?_
    rintro j ⟨hj, hb2⟩
    ((conv => whnf); (repeat (refine ⟨rfl, ?_⟩; (conv => whnf))))
    refine ⟨fun hlt => ?_, fun hge => ?_⟩
    · have hlt2 : j < i := by have := of_decide_eq_true hlt; omega
      (conv => whnf)
      refine W_loop (fun k : Nat => k ≤ j ∧ rbad3 xs i j k = false) (fun k => mk [(0, .c false [.li 3 (vcs xs)]), (3, .c false [.i i]), (4, .c false [.i j]), (5, .c false [.i k])] [] 100) (fun k => j - k) 0 ⟨by simp, rfl⟩ (.to ⟨rfl, rfl, rfl, rfl, trivial⟩ trivial rfl rfl) ?_
      rintro k ⟨hk, hb3⟩
      ((conv => whnf); (repeat (refine ⟨rfl, ?_⟩; (conv => whnf))))
      refine ⟨fun hlt => ?_, fun hge => ?_⟩
      · have hlt3 : k < j := by have := of_decide_eq_true hlt; omega
        ((conv => whnf); (repeat (refine ⟨rfl, ?_⟩; (conv => whnf))))
        refine ⟨⟨by omega, by simp; omega⟩, ?_⟩
        rw [vat (j := i) (by simp) hlt1]
        ((conv => whnf); (repeat (first | (refine ⟨rfl, ?_⟩; (conv => whnf)) | (refine ⟨Nat.le_of_ble_eq_true rfl, ?_⟩; (conv => whnf)))))
        refine ⟨⟨by omega, by simp; omega⟩, ?_⟩
        rw [vat (j := j) (by simp) (by omega)]
        ((conv => whnf); (repeat (first | (refine ⟨rfl, ?_⟩; (conv => whnf)) | (refine ⟨Nat.le_of_ble_eq_true rfl, ?_⟩; (conv => whnf)))))
        refine ⟨⟨by omega, by simp; omega⟩, ?_⟩
        rw [vat (j := k) (by simp) (by omega)]
        ((conv => whnf); (repeat (refine ⟨Nat.le_of_ble_eq_true rfl, ?_⟩; (conv => whnf))))
        refine call_pure (rthrough_spec _ _ _) rfl rfl rfl ?_
        obtain ⟨T, hT⟩ : ∃ T, through (xs.getD i ⟨0, 0, 0⟩) (xs.getD j ⟨0, 0, 0⟩) (xs.getD k ⟨0, 0, 0⟩) = T := ⟨_, rfl⟩
        have hbad : rbad xs i j k = (T.2 && xs.any fun v => side T.1 v != 0) := by rw [rbad, hT]
        rw [hT]
        ((conv => whnf); (repeat (first | (refine ⟨(by kernel_rfl : chk _ _ = true), ?_⟩; (conv => whnf)) | (refine ⟨rfl, ?_⟩; (conv => whnf)) | (refine ⟨Nat.le_of_ble_eq_true rfl, ?_⟩; (conv => whnf)))))
        refine W_loop (fun m : Nat => m ≤ xs.length ∧ (T.2 = true → (xs.take m).any (fun v => side T.1 v != 0) = false)) (fun m => mk [(0, .c false [.li 3 (vcs xs)]), (3, .c false [.i i]), (4, .c false [.i j]), (5, .c false [.i k]), (6, .c false [.ptr 119 0]), (7, .c false [.b T.2]), (8, .c false [.i m])] [(119, .box T.1.cs)] 200) (fun m => xs.length - m) 0 ⟨by simp, by simp⟩
          (.to ⟨rfl, rfl, rfl, rfl, rfl, rfl, rfl, trivial⟩ ⟨rfl, trivial⟩ rfl rfl) ?_
        rintro m ⟨hm, hbm⟩
        ((conv => whnf); (repeat (refine ⟨rfl, ?_⟩; (conv => whnf))))
        have hnext : ∀ st' : St, rbad xs i j k = false → Weak gl st' (mk [(0, .c false [.li 3 (vcs xs)]), (3, .c false [.i i]), (4, .c false [.i j]), (5, .c false [.i (k + 1 : Nat)])] [] 100) → ∃ y : Nat, (y ≤ j ∧ rbad3 xs i j y = false) ∧ j - y < j - k ∧ Weak gl st' (mk [(0, .c false [.li 3 (vcs xs)]), (3, .c false [.i i]), (4, .c false [.i j]), (5, .c false [.i y])] [] 100) :=
          fun st' h hw => ⟨k + 1, ⟨hlt3, by rw [rbad3_succ, hb3, h]; rfl⟩, by omega, hw⟩
        have hw1 : (IntKind.i64.wrap ((k : Int) + 1)) = ((k + 1 : Nat) : Int) := by rw [wr (by omega)]; omega
        cases hmlt : decide ((m : Int) < ((vcs xs).length : Int))
        · have hmx : m = xs.length := by have := of_decide_eq_false hmlt; simp at this; omega
          ((conv => whnf); (repeat (first | (refine ⟨rfl, ?_⟩; (conv => whnf)) | (refine ⟨fun h => Bool.noConfusion h, fun _ => ?_⟩; (conv => whnf)))))
          refine hnext _ ?_ (.to ⟨rfl, rfl, rfl, eq1 hw1, trivial⟩ trivial rfl rfl)
          rw [hbad]
          cases hT2 : T.2
          · rfl
          · have := hbm hT2
            rw [hmx, List.take_length] at this
            rw [this]; rfl
        · have hmx : m < xs.length := by have := of_decide_eq_true hmlt; simp at this; omega
          cases hT2 : T.2
          · ((conv => whnf); (repeat (first | (refine ⟨rfl, ?_⟩; (conv => whnf)) | (refine ⟨fun _ => ?_, fun h => Bool.noConfusion h⟩; (conv => whnf)) | (refine ⟨fun h => Bool.noConfusion h, fun _ => ?_⟩; (conv => whnf)))))
            refine hnext _ (by rw [hbad, hT2]; rfl) (.to ⟨rfl, rfl, rfl, eq1 hw1, trivial⟩ trivial rfl rfl)
          · have hbm' := hbm hT2
            ((conv => whnf); (repeat (first | (refine ⟨rfl, ?_⟩; (conv => whnf)) | (refine ⟨Nat.le_of_ble_eq_true rfl, ?_⟩; (conv => whnf)) | (refine ⟨fun _ => ?_, fun h => Bool.noConfusion h⟩; (conv => whnf)))))
            refine ⟨⟨by omega, by simp; omega⟩, ?_⟩
            rw [vcs_at (j := m) (by simp) hmx]
            ((conv => whnf); (repeat (refine ⟨Nat.le_of_ble_eq_true rfl, ?_⟩; (conv => whnf))))
            refine call_pure (rside_spec _ _) rfl rfl rfl ?_
            ((conv => whnf); (repeat (first | (refine ⟨(by kernel_rfl : chk _ _ = true), ?_⟩; (conv => whnf)) | (refine ⟨rfl, ?_⟩; (conv => whnf)))))
            cases hs : (side T.1 xs[m] != 0)
            · ((conv => whnf); (repeat (first | (refine ⟨rfl, ?_⟩; (conv => whnf)) | (refine ⟨fun h => Bool.noConfusion h, fun _ => ?_⟩; (conv => whnf)))))
              refine ⟨m + 1, ⟨by omega, fun _ => any_snoc hmx hbm' hs⟩, by omega, .to ⟨rfl, rfl, rfl, rfl, rfl, rfl, eq1 (by rw [wr (by omega)]; simp), trivial⟩ ⟨rfl, trivial⟩ rfl rfl⟩
            · ((conv => whnf); (repeat (refine ⟨fun _ => ?_, fun h => Bool.noConfusion h⟩; (conv => whnf))))
              refine retPure_ret rfl ?_
              refine eqb (rbad_all hlt1 hlt2 hlt3 ?_).symm
              rw [hbad, hT2]
              simp only [Bool.true_and]
              exact List.any_eq_true.2 ⟨xs[m], by simp, hs⟩
      · have hkj : k = j := by have := of_decide_eq_false hge; omega
        subst hkj
        ((conv => whnf); (repeat (refine ⟨rfl, ?_⟩; (conv => whnf))))
        refine ⟨k + 1, ⟨by omega, by rw [rbad2_succ, hb2, hb3]; rfl⟩, by omega, .to ⟨rfl, rfl, eq1 (by rw [wr (by omega)]; simp), trivial⟩ trivial rfl rfl⟩
    · have hji : j = i := by have := of_decide_eq_false hge; omega
      subst hji
      ((conv => whnf); (repeat (refine ⟨rfl, ?_⟩; (conv => whnf))))
      refine ⟨j + 1, ⟨by omega, by rw [rbad1_succ, hb1, hb2]; rfl⟩, by omega, .to ⟨rfl, eq1 (by rw [wr (by omega)]; simp), trivial⟩ trivial rfl rfl⟩
  · have hin : i = xs.length := by have := of_decide_eq_false hge; simp at this; omega
    subst hin
    (conv => whnf)
    refine retPure_ret rfl ?_
    exact eqb (by rw [rflatB, hb1]; rfl)
end Go.Proofs.YtlbafapmhjfobaaGreatDoor
namespace Go.Proofs.YtlbafapmhjfobaaGreatDoor
set_option maxRecDepth 100000
attribute [local irreducible] LoopW LoopY RngW retPure retFresh retBox retTurn
variable {gl : Nat → Option (List AV)}

def ptA (l : List Int) (a : Nat) : Nat := nextAt l (nextAt l (nextAt l (nextAt l a)))
def pt0 (l : List Int) (a : Nat) : V3 := ⟨nextV l a 17 - 8, nextV l (nextAt l a) 17 - 8, nextV l (nextAt l (nextAt l a)) 17 - 8⟩
def ptK (l : List Int) (a : Nat) : Int := nextV l (nextAt l (nextAt l (nextAt l a))) 6
def vget (xs : List V3) (i : Nat) : V3 := xs.getD i ⟨0, 0, 0⟩
def mid (a b : V3) : V3 := ⟨(a.x + b.x).tdiv 2, (a.y + b.y).tdiv 2, (a.z + b.z).tdiv 2⟩
def ptV (l : List Int) (a : Nat) (out : List V3) : V3 :=
  if ptK l a = 1 ∧ 1 < out.length then mid (vget out (out.length - 1)) (vget out (out.length - 2))
  else if ptK l a = 2 ∧ 0 < out.length then vget out (out.length - 1)
  else if ptK l a = 3 ∧ 2 < out.length then ⟨(pt0 l a).x, (pt0 l a).y, (vget out (out.length - 1)).z⟩
  else pt0 l a
def ptStep (l : List Int) (s : Nat × List V3) : Nat × List V3 := (ptA l s.1, s.2 ++ [ptV l s.1 s.2])
def ptRun (l : List Int) : Nat → Nat × List V3
  | 0 => (nextAt l 0, [])
  | k + 1 => ptStep l (ptRun l k)
def ptN (l : List Int) : Nat := (4 + nextV l 0 5).toNat
def fixP (xs : List V3) : List V3 :=
  if rflatB xs then ((xs.set 1 ⟨(vget xs 0).x - 3, (vget xs 0).y, (vget xs 0).z⟩).set 2 ⟨(vget xs 0).x, (vget xs 0).y - 2, (vget xs 0).z⟩).set 3 ⟨(vget xs 0).x, (vget xs 0).y, (vget xs 0).z - 1⟩ else xs
def points (l : List Int) : List V3 := fixP (ptRun l (ptN l)).2
theorem ptRun_len (l : List Int) : ∀ k, (ptRun l k).2.length = k ∧ (ptRun l k).1 ≤ 1 + 4 * k
  | 0 => ⟨rfl, by have := nextAt_le l 0; simp only [ptRun]; omega⟩
  | k + 1 => by
    obtain ⟨h1, h2⟩ := ptRun_len l k
    refine ⟨by simp [ptRun, ptStep, h1], ?_⟩
    simp only [ptRun, ptStep, ptA]
    have h3 := nextAt_le l (ptRun l k).1
    have h4 := nextAt_le l (nextAt l (ptRun l k).1)
    have h5 := nextAt_le l (nextAt l (nextAt l (ptRun l k).1))
    have h6 := nextAt_le l (nextAt l (nextAt l (nextAt l (ptRun l k).1)))
    omega
theorem ptN_bd (l : List Int) : 4 ≤ ptN l ∧ ptN l ≤ 8 ∧ ((ptN l : Nat) : Int) = 4 + nextV l 0 5 := by
  have := nextV_bd (xs := l) (a := 0) (m := 5) (by omega)
  unfold ptN; omega
theorem tdiv2_bd {x k : Int} (h : -(2 * k) ≤ x ∧ x ≤ 2 * k) : -k ≤ x.tdiv 2 ∧ x.tdiv 2 ≤ k := by
  by_cases hx : 0 ≤ x
  · rw [Int.tdiv_eq_ediv_of_nonneg hx]; omega
  · have : x.tdiv 2 = -((-x).tdiv 2) := by rw [Int.neg_tdiv]; omega
    rw [this, Int.tdiv_eq_ediv_of_nonneg (by omega)]; omega
theorem mid_bd {a b : V3} {k : Int} (ha : a.bd k) (hb : b.bd k) : (mid a b).bd k := by
  unfold V3.bd mid at *
  simp only
  exact ⟨tdiv2_bd (by omega), tdiv2_bd (by omega), tdiv2_bd (by omega)⟩
theorem vget_bd {xs : List V3} {k : Int} (h : ∀ v ∈ xs, v.bd k) {i : Nat} (hi : i < xs.length) : (vget xs i).bd k := by
  unfold vget
  simp only [List.getD_eq_getElem?_getD, List.getElem?_eq_getElem hi, Option.getD_some]
  exact h _ (by simp)
theorem pt0_bd (l : List Int) (a : Nat) : (pt0 l a).bd 8 := by
  have h1 := nextV_bd (xs := l) (a := a) (m := 17) (by omega)
  have h2 := nextV_bd (xs := l) (a := nextAt l a) (m := 17) (by omega)
  have h3 := nextV_bd (xs := l) (a := nextAt l (nextAt l a)) (m := 17) (by omega)
  unfold V3.bd pt0; simp only; omega
theorem ptRun_bd (l : List Int) : ∀ k, ∀ v ∈ (ptRun l k).2, v.bd 8
  | 0 => by simp [ptRun]
  | k + 1 => by
    intro v hv
    simp only [ptRun, ptStep, List.mem_append, List.mem_singleton] at hv
    have ih := ptRun_bd l k
    have h0 := pt0_bd l (ptRun l k).1
    rcases hv with hv | rfl
    · exact ih v hv
    · unfold ptV
      split
      · exact mid_bd (vget_bd ih (by omega)) (vget_bd ih (by omega))
      · split
        · exact vget_bd ih (by omega)
        · split
          · have := vget_bd ih (i := (ptRun l k).2.length - 1) (by omega)
            exact ⟨h0.1, h0.2.1, this.2.2⟩
          · exact h0
theorem points_spec {l : List Int} : Spec Tryz.prog gl 6 none [(false, [.li 1 (ics l)])] (.c false [.own 0 (points l).length]) (some (.row 3 (vcs (points l)))) := by
  refine spec_fresh' A6_comp Tryz.func6 Tryz.call6 fol Tryz.ntmps6 Tryz.results6 (argsB_spec rfl) (Nat.le_of_ble_eq_true rfl) (by intro x hx; simp [HE.cells] at hx) ?_ ?_
  · intro x hx; simp [SV.cells] at hx; subst hx; exact .inr rfl
  (conv => whnf)
  refine call_box 4 (next_spec (m := 5) (xs := l) (at_ := 0) (by omega) (by omega)) rfl rfl (fun p hp x hx => ?_) ⟨_, List.mem_cons_self, 0, by simp⟩ rfl rfl rfl ?_
  · simp only [List.mem_cons, List.not_mem_nil, or_false] at hp
    rcases hp with rfl | rfl
    · simp only [List.mem_singleton] at hx
      subst hx; exact .inr ⟨0, rfl⟩
    · simp only [List.mem_singleton] at hx
      subst hx; exact .inl rfl
  ((conv => whnf); (repeat (refine ⟨rfl, ?_⟩; (conv => whnf))))
  obtain ⟨n1, n2, n3⟩ := ptN_bd l
  refine W_loop (fun k : Nat => k ≤ ptN l) (fun k => mk [(3, .c false [.ptr 4 0]), (4, .c false [.i (ptN l)]), (5, .c false [.own 12 (ptRun l k).2.length]), (6, .c false [.i k])] [(4, .box [.li 1 (ics l), .i (ptRun l k).1]), (12, .row 3 (vcs (ptRun l k).2))] 100)
    (fun k => ptN l - k) 0 (by simp) (.trans (Weak.nilslot 5 3 rfl) (.to ⟨rfl, eq1 (by rw [n3]; exact wr (by omega)), rfl, rfl, trivial⟩ ⟨rfl, rfl, trivial⟩ rfl rfl)) ?_
  rintro k hk
  obtain ⟨l1, l2⟩ := ptRun_len l k
  have hbd := ptRun_bd l k
  obtain ⟨a, ha⟩ : ∃ a, (ptRun l k).1 = a := ⟨_, rfl⟩
  obtain ⟨out, ho⟩ : ∃ out, (ptRun l k).2 = out := ⟨_, rfl⟩
  have hstep : ptRun l (k + 1) = ptStep l (a, out) := by rw [← ha, ← ho]; rfl
  rw [ho] at l1 hbd
  rw [ha] at l2
  rw [ha, ho]
  ((conv => whnf); (repeat (refine ⟨rfl, ?_⟩; (conv => whnf))))
  refine ⟨fun hlt => ?_, fun hge => ?_⟩
  · have hlt' : k < ptN l := by have := of_decide_eq_true hlt; omega
    have hp : ∀ m, ∀ p ∈ [(false, [AV.ptr 0 0]), (false, [AV.i m])], ∀ x ∈ p.2, x.pers = true ∨ ∃ o, x = .ptr 0 o := by
      intro m p hp x hx
      simp at hp
      rcases hp with rfl | rfl
      · simp at hx; subst hx; exact .inr ⟨0, rfl⟩
      · simp at hx; subst hx; exact .inl rfl
    have hin : ∀ m, ∃ p ∈ [(false, [AV.ptr 0 0]), (false, [AV.i m])], ∃ o, AV.ptr 0 o ∈ p.2 := fun m => ⟨(false, [.ptr 0 0]), List.mem_cons_self, 0, List.mem_cons_self⟩
    have h1 := nextAt_le l a
    have h2 := nextAt_le l (nextAt l a)
    have h3 := nextAt_le l (nextAt l (nextAt l a))
    have h4 := nextAt_le l (nextAt l (nextAt l (nextAt l a)))
    have v1 := nextV_bd (xs := l) (a := a) (m := 17) (by omega)
    have v2 := nextV_bd (xs := l) (a := nextAt l a) (m := 17) (by omega)
    have v3 := nextV_bd (xs := l) (a := nextAt l (nextAt l a)) (m := 17) (by omega)
    (conv => whnf)
    refine call_box 4 (next_spec (m := 17) (xs := l) (at_ := a) (by omega) (by omega)) rfl rfl (hp _) (hin _) rfl rfl rfl ?_
    ((conv => whnf); (repeat (refine ⟨rfl, ?_⟩; (conv => whnf))))
    refine call_box 4 (next_spec (m := 17) (xs := l) (at_ := nextAt l a) (by omega) (by omega)) rfl rfl (hp _) (hin _) rfl rfl rfl ?_
    ((conv => whnf); (repeat (refine ⟨rfl, ?_⟩; (conv => whnf))))
    refine call_box 4 (next_spec (m := 17) (xs := l) (at_ := nextAt l (nextAt l a)) (by omega) (by omega)) rfl rfl (hp _) (hin _) rfl rfl rfl ?_
    ((conv => whnf); (repeat (first | (refine ⟨rfl, ?_⟩; (conv => whnf)) | (refine ⟨Nat.le_of_ble_eq_true rfl, ?_⟩; (conv => whnf)))))
    refine call_box 4 (next_spec (m := 6) (xs := l) (at_ := nextAt l (nextAt l (nextAt l a))) (by omega) (by omega)) rfl rfl (hp _) (hin _) rfl rfl rfl ?_
    ((conv => whnf); (repeat (refine ⟨rfl, ?_⟩; (conv => whnf))))
    rw [wr (n := nextV l a 17 - 8) (by omega), wr (n := nextV l (nextAt l a) 17 - 8) (by omega), wr (n := nextV l (nextAt l (nextAt l a)) 17 - 8) (by omega)]
    have hfin : ∀ (v : V3) (st' : St), ptV l a out = v → (∀ out', out ++ [v] = out' → Weak gl st' (mk [(3, .c false [.ptr 4 0]), (4, .c false [.i (ptN l)]), (5, .c false [.own 12 out'.length]), (6, .c false [.i (k + 1 : Nat)])] [(4, .box [.li 1 (ics l), .i (ptA l a)]), (12, .row 3 (vcs out'))] 100)) →
        ∃ y : Nat, y ≤ ptN l ∧ ptN l - y < ptN l - k ∧ Weak gl st' (mk [(3, .c false [.ptr 4 0]), (4, .c false [.i (ptN l)]), (5, .c false [.own 12 (ptRun l y).2.length]), (6, .c false [.i y])] [(4, .box [.li 1 (ics l), .i (ptRun l y).1]), (12, .row 3 (vcs (ptRun l y).2))] 100) := by
      intro v st' hv hw
      refine ⟨k + 1, hlt', by omega, ?_⟩
      rw [hstep]
      simp only [ptStep]
      exact hw _ (by rw [hv])
    have hwk : IntKind.i64.wrap ((k : Int) + 1) = ((k + 1 : Nat) : Int) := by rw [wr (by omega)]; simp
    have hK : ptK l a = nextV l (nextAt l (nextAt l (nextAt l a))) 6 := rfl
    obtain ⟨kk, hkk⟩ : ∃ kk, nextV l (nextAt l (nextAt l (nextAt l a))) 6 = kk := ⟨_, rfl⟩
    rw [hkk] at hK ⊢
    by_cases c1 : kk = 1
    · subst c1
      ((conv => whnf); (repeat (first | (refine ⟨rfl, ?_⟩; (conv => whnf)) | (refine ⟨fun _ => ?_, fun h => Bool.noConfusion h⟩; (conv => whnf)))))
      refine ⟨fun g => ?_, fun g => ?_⟩
      · have g' : 1 < k := by have := of_decide_eq_true g; omega
        ((conv => whnf); (repeat (refine ⟨rfl, ?_⟩; (conv => whnf))))
        have hb1 := vget_bd hbd (i := out.length - 1) (by omega)
        have hb2 := vget_bd hbd (i := out.length - 2) (by omega)
        unfold V3.bd at hb1 hb2
        have hw1 : IntKind.i64.wrap ((k : Int) - 1) = (k : Int) - 1 := wr ⟨by omega, by omega⟩
        rw [hw1]
        refine ⟨by simp, ⟨by omega, by simp; omega⟩, ?_⟩
        ((conv => whnf); (repeat (refine ⟨rfl, ?_⟩; (conv => whnf))))
        refine ⟨by simp; omega, Nat.le_refl _, ?_⟩
        rw [vat (xs := out) (i := (k : Int) - 1) (j := out.length - 1) (by omega) (by omega)]
        ((conv => whnf); (repeat (refine ⟨rfl, ?_⟩; (conv => whnf))))
        have hw2 : IntKind.i64.wrap ((k : Int) - 2) = (k : Int) - 2 := wr ⟨by omega, by omega⟩
        rw [hw2]
        refine ⟨by simp, ⟨by omega, by simp; omega⟩, ?_⟩
        ((conv => whnf); (repeat (refine ⟨rfl, ?_⟩; (conv => whnf))))
        refine ⟨by simp; omega, Nat.le_refl _, ?_⟩
        rw [vat (xs := out) (i := (k : Int) - 2) (j := out.length - 2) (by omega) (by omega)]
        ((conv => whnf); (repeat (first | (refine ⟨(by kernel_rfl : chk _ _ = true), ?_⟩; (conv => whnf)) | (refine ⟨rfl, ?_⟩; (conv => whnf)) | (refine ⟨Nat.le_of_ble_eq_true rfl, ?_⟩; (conv => whnf)) | (refine ⟨⟨of_decide_eq_true rfl, of_decide_eq_true rfl⟩, ?_⟩; (conv => whnf)) | (refine ⟨of_decide_eq_true rfl, ?_⟩; (conv => whnf)) | (refine ⟨fun h => Bool.noConfusion h, fun _ => ?_⟩; (conv => whnf)))))
        have u1 : out.getD (out.length - 1) ⟨0, 0, 0⟩ = vget out (out.length - 1) := rfl
        have u2 : out.getD (out.length - 2) ⟨0, 0, 0⟩ = vget out (out.length - 2) := rfl
        rw [u1, u2]
        have t1 := tdiv2_bd (x := (vget out (out.length - 1)).x + (vget out (out.length - 2)).x) (k := 8) (by omega)
        have t2 := tdiv2_bd (x := (vget out (out.length - 1)).y + (vget out (out.length - 2)).y) (k := 8) (by omega)
        have t3 := tdiv2_bd (x := (vget out (out.length - 1)).z + (vget out (out.length - 2)).z) (k := 8) (by omega)
        rw [wr (n := (vget out (out.length - 1)).x + (vget out (out.length - 2)).x) (by omega), wr (n := (vget out (out.length - 1)).y + (vget out (out.length - 2)).y) (by omega), wr (n := (vget out (out.length - 1)).z + (vget out (out.length - 2)).z) (by omega),
          wr (n := ((vget out (out.length - 1)).x + (vget out (out.length - 2)).x).tdiv 2) (by omega), wr (n := ((vget out (out.length - 1)).y + (vget out (out.length - 2)).y).tdiv 2) (by omega), wr (n := ((vget out (out.length - 1)).z + (vget out (out.length - 2)).z).tdiv 2) (by omega)]
        refine ⟨by simp, by simp [big]; omega, fun m h => absurd (own_inj h) (Nat.ne_of_beq_eq_false rfl), ?_⟩
        ((conv => whnf); (repeat (refine ⟨rfl, ?_⟩; (conv => whnf))))
        exact hfin (mid (vget out (out.length - 1)) (vget out (out.length - 2))) _ (by rw [ptV, hK]; rw [if_pos (by omega)]) (fun out' ho => .to ⟨rfl, rfl, congrArg (fun n => SV.c false [AV.own 12 n]) (by rw [← ho]; simp), eq1 hwk, trivial⟩ ⟨rfl, congrArg (fun r => some (HE.row 3 r)) (by rw [← ho]; simp [V3.cs, pt0, vget, mid]), trivial⟩ rfl rfl)
      · have g' : ¬ 1 < k := by have := of_decide_eq_false g; omega
        ((conv => whnf); (repeat (first | (refine ⟨rfl, ?_⟩; (conv => whnf)) | (refine ⟨Nat.le_of_ble_eq_true rfl, ?_⟩; (conv => whnf)) | (refine ⟨⟨of_decide_eq_true rfl, of_decide_eq_true rfl⟩, ?_⟩; (conv => whnf)) | (refine ⟨fun h => Bool.noConfusion h, fun _ => ?_⟩; (conv => whnf)))))
        refine ⟨by simp, by simp [big]; omega, fun m h => absurd (own_inj h) (Nat.ne_of_beq_eq_false rfl), ?_⟩
        ((conv => whnf); (repeat (refine ⟨rfl, ?_⟩; (conv => whnf))))
        exact hfin (pt0 l a) _ (by rw [ptV, hK]; rw [if_neg (by omega), if_neg (by simp), if_neg (by simp)]) (fun out' ho => .to ⟨rfl, rfl, congrArg (fun n => SV.c false [AV.own 12 n]) (by rw [← ho]; simp), eq1 hwk, trivial⟩ ⟨rfl, congrArg (fun r => some (HE.row 3 r)) (by rw [← ho]; simp [V3.cs, pt0, vget, mid]), trivial⟩ rfl rfl)
    · have e1 : (kk == 1) = false := beq_eq_false_iff_ne.2 c1
      rw [e1]
      ((conv => whnf); (repeat (first | (refine ⟨rfl, ?_⟩; (conv => whnf)) | (refine ⟨fun h => Bool.noConfusion h, fun _ => ?_⟩; (conv => whnf)))))
      by_cases c2 : kk = 2
      · subst c2
        ((conv => whnf); (repeat (first | (refine ⟨rfl, ?_⟩; (conv => whnf)) | (refine ⟨fun _ => ?_, fun h => Bool.noConfusion h⟩; (conv => whnf)))))
        refine ⟨fun g => ?_, fun g => ?_⟩
        · have g' : 0 < k := by have := of_decide_eq_true g; omega
          ((conv => whnf); (repeat (refine ⟨rfl, ?_⟩; (conv => whnf))))
          have hw1 : IntKind.i64.wrap ((k : Int) - 1) = (k : Int) - 1 := wr ⟨by omega, by omega⟩
          rw [hw1]
          refine ⟨by simp, ⟨by omega, by simp; omega⟩, ?_⟩
          ((conv => whnf); (repeat (refine ⟨rfl, ?_⟩; (conv => whnf))))
          refine ⟨by simp; omega, Nat.le_refl _, ?_⟩
          rw [vat (xs := out) (i := (k : Int) - 1) (j := out.length - 1) (by omega) (by omega)]
          ((conv => whnf); (repeat (first | (refine ⟨rfl, ?_⟩; (conv => whnf)) | (refine ⟨Nat.le_of_ble_eq_true rfl, ?_⟩; (conv => whnf)) | (refine ⟨⟨of_decide_eq_true rfl, of_decide_eq_true rfl⟩, ?_⟩; (conv => whnf)) | (refine ⟨fun h => Bool.noConfusion h, fun _ => ?_⟩; (conv => whnf)))))
          refine ⟨by simp, by simp [big]; omega, fun m h => absurd (own_inj h) (Nat.ne_of_beq_eq_false rfl), ?_⟩
          ((conv => whnf); (repeat (refine ⟨rfl, ?_⟩; (conv => whnf))))
          exact hfin (vget out (out.length - 1)) _ (by rw [ptV, hK]; rw [if_neg (by simp), if_pos (by omega)]) (fun out' ho => .to ⟨rfl, rfl, congrArg (fun n => SV.c false [AV.own 12 n]) (by rw [← ho]; simp), eq1 hwk, trivial⟩ ⟨rfl, congrArg (fun r => some (HE.row 3 r)) (by rw [← ho]; simp [V3.cs, pt0, vget, mid]), trivial⟩ rfl rfl)
        · have g' : ¬ 0 < k := by have := of_decide_eq_false g; omega
          ((conv => whnf); (repeat (first | (refine ⟨rfl, ?_⟩; (conv => whnf)) | (refine ⟨Nat.le_of_ble_eq_true rfl, ?_⟩; (conv => whnf)) | (refine ⟨⟨of_decide_eq_true rfl, of_decide_eq_true rfl⟩, ?_⟩; (conv => whnf)) | (refine ⟨fun h => Bool.noConfusion h, fun _ => ?_⟩; (conv => whnf)))))
          refine ⟨by simp, by simp [big]; omega, fun m h => absurd (own_inj h) (Nat.ne_of_beq_eq_false rfl), ?_⟩
          ((conv => whnf); (repeat (refine ⟨rfl, ?_⟩; (conv => whnf))))
          exact hfin (pt0 l a) _ (by rw [ptV, hK]; rw [if_neg (by simp), if_neg (by omega), if_neg (by simp)]) (fun out' ho => .to ⟨rfl, rfl, congrArg (fun n => SV.c false [AV.own 12 n]) (by rw [← ho]; simp), eq1 hwk, trivial⟩ ⟨rfl, congrArg (fun r => some (HE.row 3 r)) (by rw [← ho]; simp [V3.cs, pt0, vget, mid]), trivial⟩ rfl rfl)
      · have e2 : (kk == 2) = false := beq_eq_false_iff_ne.2 c2
        rw [e2]
        ((conv => whnf); (repeat (first | (refine ⟨rfl, ?_⟩; (conv => whnf)) | (refine ⟨fun h => Bool.noConfusion h, fun _ => ?_⟩; (conv => whnf)))))
        by_cases c3 : kk = 3
        · subst c3
          ((conv => whnf); (repeat (first | (refine ⟨rfl, ?_⟩; (conv => whnf)) | (refine ⟨fun _ => ?_, fun h => Bool.noConfusion h⟩; (conv => whnf)))))
          refine ⟨fun g => ?_, fun g => ?_⟩
          · have g' : 2 < k := by have := of_decide_eq_true g; omega
            ((conv => whnf); (repeat (refine ⟨rfl, ?_⟩; (conv => whnf))))
            have hw1 : IntKind.i64.wrap ((k : Int) - 1) = (k : Int) - 1 := wr ⟨by omega, by omega⟩
            rw [hw1]
            refine ⟨by simp, ⟨by omega, by simp; omega⟩, ?_⟩
            ((conv => whnf); (repeat (refine ⟨rfl, ?_⟩; (conv => whnf))))
            refine ⟨by simp; omega, Nat.le_refl _, ?_⟩
            rw [vat (xs := out) (i := (k : Int) - 1) (j := out.length - 1) (by omega) (by omega)]
            ((conv => whnf); (repeat (first | (refine ⟨rfl, ?_⟩; (conv => whnf)) | (refine ⟨Nat.le_of_ble_eq_true rfl, ?_⟩; (conv => whnf)) | (refine ⟨⟨of_decide_eq_true rfl, of_decide_eq_true rfl⟩, ?_⟩; (conv => whnf)))))
            refine ⟨by simp, by simp [big]; omega, fun m h => absurd (own_inj h) (Nat.ne_of_beq_eq_false rfl), ?_⟩
            ((conv => whnf); (repeat (refine ⟨rfl, ?_⟩; (conv => whnf))))
            exact hfin (⟨(pt0 l a).x, (pt0 l a).y, (vget out (out.length - 1)).z⟩) _ (by rw [ptV, hK]; rw [if_neg (by simp), if_neg (by simp), if_pos (by omega)]) (fun out' ho => .to ⟨rfl, rfl, congrArg (fun n => SV.c false [AV.own 12 n]) (by rw [← ho]; simp), eq1 hwk, trivial⟩ ⟨rfl, congrArg (fun r => some (HE.row 3 r)) (by rw [← ho]; simp [V3.cs, pt0, vget, mid]), trivial⟩ rfl rfl)
          · have g' : ¬ 2 < k := by have := of_decide_eq_false g; omega
            ((conv => whnf); (repeat (first | (refine ⟨rfl, ?_⟩; (conv => whnf)) | (refine ⟨Nat.le_of_ble_eq_true rfl, ?_⟩; (conv => whnf)) | (refine ⟨⟨of_decide_eq_true rfl, of_decide_eq_true rfl⟩, ?_⟩; (conv => whnf)))))
            refine ⟨by simp, by simp [big]; omega, fun m h => absurd (own_inj h) (Nat.ne_of_beq_eq_false rfl), ?_⟩
            ((conv => whnf); (repeat (refine ⟨rfl, ?_⟩; (conv => whnf))))
            exact hfin (pt0 l a) _ (by rw [ptV, hK]; rw [if_neg (by simp), if_neg (by simp), if_neg (by omega)]) (fun out' ho => .to ⟨rfl, rfl, congrArg (fun n => SV.c false [AV.own 12 n]) (by rw [← ho]; simp), eq1 hwk, trivial⟩ ⟨rfl, congrArg (fun r => some (HE.row 3 r)) (by rw [← ho]; simp [V3.cs, pt0, vget, mid]), trivial⟩ rfl rfl)
        · have e3 : (kk == 3) = false := beq_eq_false_iff_ne.2 c3
          rw [e3]
          ((conv => whnf); (repeat (first | (refine ⟨rfl, ?_⟩; (conv => whnf)) | (refine ⟨Nat.le_of_ble_eq_true rfl, ?_⟩; (conv => whnf)) | (refine ⟨⟨of_decide_eq_true rfl, of_decide_eq_true rfl⟩, ?_⟩; (conv => whnf)) | (refine ⟨fun h => Bool.noConfusion h, fun _ => ?_⟩; (conv => whnf)))))
          refine ⟨by simp, by simp [big]; omega, fun m h => absurd (own_inj h) (Nat.ne_of_beq_eq_false rfl), ?_⟩
          ((conv => whnf); (repeat (refine ⟨rfl, ?_⟩; (conv => whnf))))
          exact hfin (pt0 l a) _ (by rw [ptV, hK]; rw [if_neg (by omega), if_neg (by omega), if_neg (by omega)]) (fun out' ho => .to ⟨rfl, rfl, congrArg (fun n => SV.c false [AV.own 12 n]) (by rw [← ho]; simp), eq1 hwk, trivial⟩ ⟨rfl, congrArg (fun r => some (HE.row 3 r)) (by rw [← ho]; simp [V3.cs, pt0, vget, mid]), trivial⟩ rfl rfl)
  · have hkn : k = ptN l := by have := of_decide_eq_false hge; omega
    subst hkn
    (conv => whnf)
    refine call_lend (rflat_spec (xs := out) (by omega)) (lend0 rfl (by simp)) v1 ?_
    (conv => whnf)
    have hpts : points l = fixP out := by rw [points, ho]
    rw [hpts]
    cases hfl : rflatB out
    · ((conv => whnf); (repeat (refine ⟨fun h => Bool.noConfusion h, fun _ => ?_⟩; (conv => whnf))))
      have : fixP out = out := by rw [fixP, hfl]; rfl
      rw [this]
      refine retFresh_ret 12 rfl rfl ⟨rfl, .inl (by simp [ren]), trivial⟩
    · ((conv => whnf); (repeat (first | (refine ⟨rfl, ?_⟩; (conv => whnf)) | (refine ⟨fun _ => ?_, fun h => Bool.noConfusion h⟩; (conv => whnf)))))
      have hb0 := vget_bd hbd (i := 0) (by omega)
      unfold V3.bd at hb0
      refine ⟨by simp, ⟨by omega, by simp; omega⟩, ?_⟩
      ((conv => whnf); (repeat (refine ⟨rfl, ?_⟩; (conv => whnf))))
      refine ⟨by simp; omega, Nat.le_refl _, ?_⟩
      rw [vat (xs := out) (i := 0) (j := 0) (by omega) (by omega)]
      ((conv => whnf); (repeat (first | (refine ⟨rfl, ?_⟩; (conv => whnf)) | (refine ⟨Nat.le_of_ble_eq_true rfl, ?_⟩; (conv => whnf)))))
      have u0 : out.getD 0 ⟨0, 0, 0⟩ = vget out 0 := rfl
      rw [u0, wr (n := (vget out 0).x - 3) (by omega)]
      refine ⟨by simp, ⟨by omega, by simp; omega⟩, ?_⟩
      ((conv => whnf); (repeat (refine ⟨rfl, ?_⟩; (conv => whnf))))
      have hs1 : (vcs out).set (Int.toNat 1) (putAt ((vcs out).getD (Int.toNat 1) []) 0 [.i ((vget out 0).x - 3), .i (vget out 0).y, .i (vget out 0).z]) = vcs (out.set 1 ⟨(vget out 0).x - 3, (vget out 0).y, (vget out 0).z⟩) := vcs_set (xs := out) (i := 1) (v := ⟨(vget out 0).x - 3, (vget out 0).y, (vget out 0).z⟩) (by omega)
      refine ⟨by simp; omega, rfl, Nat.le_refl _, rfl, ?_⟩
      rw [hs1]
      ((conv => whnf); (repeat (first | (refine ⟨rfl, ?_⟩; (conv => whnf)) | (refine ⟨Nat.le_of_ble_eq_true rfl, ?_⟩; (conv => whnf)))))
      rw [wr (n := (vget out 0).y - 2) (by omega)]
      refine ⟨by simp, ⟨by omega, by simp; omega⟩, ?_⟩
      ((conv => whnf); (repeat (refine ⟨rfl, ?_⟩; (conv => whnf))))
      have hs2 : (vcs (out.set 1 ⟨(vget out 0).x - 3, (vget out 0).y, (vget out 0).z⟩)).set (Int.toNat 2) (putAt ((vcs (out.set 1 ⟨(vget out 0).x - 3, (vget out 0).y, (vget out 0).z⟩)).getD (Int.toNat 2) []) 0 [.i (vget out 0).x, .i ((vget out 0).y - 2), .i (vget out 0).z]) = vcs ((out.set 1 ⟨(vget out 0).x - 3, (vget out 0).y, (vget out 0).z⟩).set 2 ⟨(vget out 0).x, (vget out 0).y - 2, (vget out 0).z⟩) :=
        vcs_set (i := 2) (v := ⟨(vget out 0).x, (vget out 0).y - 2, (vget out 0).z⟩) (by simp; omega)
      refine ⟨by simp; omega, rfl, Nat.le_refl _, rfl, ?_⟩
      rw [hs2]
      ((conv => whnf); (repeat (first | (refine ⟨rfl, ?_⟩; (conv => whnf)) | (refine ⟨Nat.le_of_ble_eq_true rfl, ?_⟩; (conv => whnf)))))
      rw [wr (n := (vget out 0).z - 1) (by omega)]
      refine ⟨by simp, ⟨by omega, by simp; omega⟩, ?_⟩
      ((conv => whnf); (repeat (refine ⟨rfl, ?_⟩; (conv => whnf))))
      have hs3 : (vcs ((out.set 1 ⟨(vget out 0).x - 3, (vget out 0).y, (vget out 0).z⟩).set 2 ⟨(vget out 0).x, (vget out 0).y - 2, (vget out 0).z⟩)).set (Int.toNat 3) (putAt ((vcs ((out.set 1 ⟨(vget out 0).x - 3, (vget out 0).y, (vget out 0).z⟩).set 2 ⟨(vget out 0).x, (vget out 0).y - 2, (vget out 0).z⟩)).getD (Int.toNat 3) []) 0 [.i (vget out 0).x, .i (vget out 0).y, .i ((vget out 0).z - 1)]) = vcs (fixP out) := by
        refine (vcs_set (i := 3) (v := ⟨(vget out 0).x, (vget out 0).y, (vget out 0).z - 1⟩) (by simp; omega)).trans ?_
        rw [fixP, hfl]; rfl
      refine ⟨by simp; omega, rfl, Nat.le_refl _, rfl, ?_⟩
      rw [hs3]
      (conv => whnf)
      refine retFresh_ret 12 rfl rfl ⟨rfl, .inl ?_, trivial⟩
      simp [ren, fixP, hfl]
end Go.Proofs.YtlbafapmhjfobaaGreatDoor
