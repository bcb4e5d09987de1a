/-
  Contracts: the lists of the 24 rotations of the cube, the reference's and the program's.
-/
import Derived.Test.YtlbafapmhjfobaaGreatDoorRef2
set_option linter.unusedVariables false
set_option linter.unusedSimpArgs false
namespace Go.Proofs.YtlbafapmhjfobaaGreatDoor
set_option maxRecDepth 100000
attribute [local irreducible] LoopW LoopY RngW retPure retFresh retBox retTurn
variable {gl : Nat → Option (List AV)}
/-- the 24 rotations of the cube, in order -/
def allT : List Tn := [⟨⟨-1, 0, 0, 0, -1, 0, 0, 0, 1⟩, 1⟩,
  ⟨⟨-1, 0, 0, 0, 0, -1, 0, -1, 0⟩, 1⟩,
  ⟨⟨-1, 0, 0, 0, 0, 1, 0, 1, 0⟩, 1⟩,
  ⟨⟨-1, 0, 0, 0, 1, 0, 0, 0, -1⟩, 1⟩,
  ⟨⟨0, -1, 0, -1, 0, 0, 0, 0, -1⟩, 1⟩,
  ⟨⟨0, -1, 0, 0, 0, -1, 1, 0, 0⟩, 1⟩,
  ⟨⟨0, -1, 0, 0, 0, 1, -1, 0, 0⟩, 1⟩,
  ⟨⟨0, -1, 0, 1, 0, 0, 0, 0, 1⟩, 1⟩,
  ⟨⟨0, 0, -1, -1, 0, 0, 0, 1, 0⟩, 1⟩,
  ⟨⟨0, 0, -1, 0, -1, 0, -1, 0, 0⟩, 1⟩,
  ⟨⟨0, 0, -1, 0, 1, 0, 1, 0, 0⟩, 1⟩,
  ⟨⟨0, 0, -1, 1, 0, 0, 0, -1, 0⟩, 1⟩,
  ⟨⟨0, 0, 1, -1, 0, 0, 0, -1, 0⟩, 1⟩,
  ⟨⟨0, 0, 1, 0, -1, 0, 1, 0, 0⟩, 1⟩,
  ⟨⟨0, 0, 1, 0, 1, 0, -1, 0, 0⟩, 1⟩,
  ⟨⟨0, 0, 1, 1, 0, 0, 0, 1, 0⟩, 1⟩,
  ⟨⟨0, 1, 0, -1, 0, 0, 0, 0, 1⟩, 1⟩,
  ⟨⟨0, 1, 0, 0, 0, -1, -1, 0, 0⟩, 1⟩,
  ⟨⟨0, 1, 0, 0, 0, 1, 1, 0, 0⟩, 1⟩,
  ⟨⟨0, 1, 0, 1, 0, 0, 0, 0, -1⟩, 1⟩,
  ⟨⟨1, 0, 0, 0, -1, 0, 0, 0, -1⟩, 1⟩,
  ⟨⟨1, 0, 0, 0, 0, -1, 0, 1, 0⟩, 1⟩,
  ⟨⟨1, 0, 0, 0, 0, 1, 0, -1, 0⟩, 1⟩,
  ⟨⟨1, 0, 0, 0, 1, 0, 0, 0, 1⟩, 1⟩]
def bx18 : List AV := [.i (-1), .i 0, .i 0, .i 0, .i (-1), .i 0, .i 0, .i 0, .i (-1), .i 0, .i 0, .i 1, .i 0, .i 1, .i 0, .i 1, .i 0, .i 0]
set_option maxHeartbeats 8000000
def cntA (i j : Nat) : Nat := 4 * i + (match i, j with | 0, 0 => 0 | 0, 1 => 0 | 0, 2 => 1 | 0, 3 => 2 | 0, 4 => 3 | 0, 5 => 4 | 0, 6 => 4 | 1, 0 => 0 | 1, 1 => 1 | 1, 2 => 1 | 1, 3 => 2 | 1, 4 => 3 | 1, 5 => 3 | 1, 6 => 4 | 2, 0 => 0 | 2, 1 => 1 | 2, 2 => 2 | 2, 3 => 2 | 2, 4 => 2 | 2, 5 => 3 | 2, 6 => 4 | 3, 0 => 0 | 3, 1 => 1 | 3, 2 => 2 | 3, 3 => 2 | 3, 4 => 2 | 3, 5 => 3 | 3, 6 => 4 | 4, 0 => 0 | 4, 1 => 1 | 4, 2 => 1 | 4, 3 => 2 | 4, 4 => 3 | 4, 5 => 3 | 4, 6 => 4 | 5, 0 => 0 | 5, 1 => 0 | 5, 2 => 1 | 5, 3 => 2 | 5, 4 => 3 | 5, 5 => 4 | 5, 6 => 4 | _, _ => 0)
theorem rall_spec : Spec Tryz.prog gl 23 none [] (.c false [.own 0 24]) (some (.row 10 (allT.map Tn.cs))) := by
  refine spec_fresh' A23_comp Tryz.func23 Tryz.call23 fol Tryz.ntmps23 Tryz.results23 (argsB_spec rfl) (Nat.le_of_ble_eq_true rfl) (by intro x hx; simp [HE.cells] at hx) ?_ ?_
  · intro x hx; simp [SV.cells] at hx; subst hx; exact .inr rfl
  ((conv => whnf); (repeat (first | (refine ⟨rfl, ?_⟩; (conv => whnf)) | (refine ⟨Nat.le_of_ble_eq_true rfl, ?_⟩; (conv => whnf)))))
  refine W_loop (fun i : Nat => i ≤ 6) (fun i => mk [(0, .c false [.nil]), (1, .c false [.ptr 9 0]), (2, .c false [.own 13 (4 * i)]), (3, .c false [.i i])] [(9, .box bx18), (13, .row 10 ((allT.take (4 * i)).map Tn.cs))] 100) (fun i => 6 - i) 0 (by simp) (.trans (Weak.nilslot 2 10 rfl) (.to ⟨rfl, rfl, rfl, rfl, trivial⟩ ⟨rfl, rfl, trivial⟩ rfl rfl)) ?_
  intro i hi
  have hcase : i = 6 ∨ i = 0 ∨ i = 1 ∨ i = 2 ∨ i = 3 ∨ i = 4 ∨ i = 5 := by omega
  rcases hcase with rfl | rfl | rfl | rfl | rfl | rfl | rfl
  · ((conv => whnf); (repeat (first | (refine ⟨rfl, ?_⟩; (conv => whnf)) | (refine ⟨fun h => Bool.noConfusion h, fun _ => ?_⟩; (conv => whnf)))))
    exact retFresh_ret 13 rfl rfl ⟨rfl, .inl (by simp [ren]), trivial⟩
  · ((conv => whnf); (repeat (first | (refine ⟨rfl, ?_⟩; (conv => whnf)) | (refine ⟨fun _ => ?_, fun h => Bool.noConfusion h⟩; (conv => whnf)))))
    refine W_loop (fun j : Nat => j ≤ 6) (fun j => mk [(0, .c false [.nil]), (1, .c false [.ptr 9 0]), (2, .c false [.own 13 (cntA 0 j)]), (3, .c false [.i ((0 : Nat) : Int)]), (4, .c false [.i j])] [(9, .box bx18), (13, .row 10 ((allT.take (cntA 0 j)).map Tn.cs))] 200) (fun j => 6 - j) 0 (by simp) (.to ⟨rfl, rfl, rfl, rfl, rfl, trivial⟩ ⟨rfl, rfl, trivial⟩ rfl rfl) ?_
    intro j hj
    have hcase : j = 6 ∨ j = 0 ∨ j = 1 ∨ j = 2 ∨ j = 3 ∨ j = 4 ∨ j = 5 := by omega
    rcases hcase with rfl | rfl | rfl | rfl | rfl | rfl | rfl
    · ((conv => whnf); (repeat (first | (refine ⟨rfl, ?_⟩; (conv => whnf)) | (refine ⟨fun h => Bool.noConfusion h, fun _ => ?_⟩; (conv => whnf)))))
      exact ⟨1, by omega, by omega, .to ⟨rfl, rfl, rfl, rfl, trivial⟩ ⟨rfl, rfl, trivial⟩ rfl rfl⟩
    · ((conv => whnf); (repeat (first | (refine ⟨(by kernel_rfl : chk _ _ = true), ?_⟩; (conv => whnf)) | (refine ⟨rfl, ?_⟩; (conv => whnf)) | (refine ⟨Nat.le_of_ble_eq_true rfl, ?_⟩; (conv => whnf)) | (refine ⟨⟨of_decide_eq_true rfl, of_decide_eq_true rfl⟩, ?_⟩; (conv => whnf)) | (refine ⟨fun _ => ?_, fun h => Bool.noConfusion h⟩; (conv => whnf)))))
      refine call_pure (trow0_spec (⟨-1, 0, 0, -1, 0, 0, 0, 0, 0⟩ : M3)) rfl rfl rfl ?_
      ((conv => whnf); (repeat (refine ⟨Nat.le_of_ble_eq_true rfl, ?_⟩; (conv => whnf))))
      refine call_pure (trow1_spec (⟨-1, 0, 0, -1, 0, 0, 0, 0, 0⟩ : M3)) rfl rfl rfl ?_
      (conv => whnf)
      refine call_pure (rcross_spec (a := ⟨-1, 0, 0⟩) (b := ⟨-1, 0, 0⟩) (by unfold V3.bd; simp) (by unfold V3.bd; simp)) rfl rfl rfl ?_
      ((conv => whnf); (repeat (first | (refine ⟨(by kernel_rfl : chk _ _ = true), ?_⟩; (conv => whnf)) | (refine ⟨rfl, ?_⟩; (conv => whnf)) | (refine ⟨Nat.le_of_ble_eq_true rfl, ?_⟩; (conv => whnf)) | (refine ⟨⟨of_decide_eq_true rfl, of_decide_eq_true rfl⟩, ?_⟩; (conv => whnf)))))
      refine call_pure (rfalse_spec (t := ⟨⟨-1, 0, 0, -1, 0, 0, 0, 0, 0⟩, 1⟩) (by simp) (by unfold M3.bd; simp) (by decide) (by decide)) rfl rfl rfl ?_
      ((conv => whnf); (repeat (first | (refine ⟨rfl, ?_⟩; (conv => whnf)) | (refine ⟨fun h => Bool.noConfusion h, fun _ => ?_⟩; (conv => whnf)))))
      exact ⟨1, by omega, by omega, .to ⟨rfl, rfl, rfl, rfl, rfl, trivial⟩ ⟨rfl, rfl, trivial⟩ rfl rfl⟩
    · ((conv => whnf); (repeat (first | (refine ⟨(by kernel_rfl : chk _ _ = true), ?_⟩; (conv => whnf)) | (refine ⟨rfl, ?_⟩; (conv => whnf)) | (refine ⟨Nat.le_of_ble_eq_true rfl, ?_⟩; (conv => whnf)) | (refine ⟨⟨of_decide_eq_true rfl, of_decide_eq_true rfl⟩, ?_⟩; (conv => whnf)) | (refine ⟨fun _ => ?_, fun h => Bool.noConfusion h⟩; (conv => whnf)))))
      refine call_pure (trow0_spec (⟨-1, 0, 0, 0, -1, 0, 0, 0, 0⟩ : M3)) rfl rfl rfl ?_
      ((conv => whnf); (repeat (refine ⟨Nat.le_of_ble_eq_true rfl, ?_⟩; (conv => whnf))))
      refine call_pure (trow1_spec (⟨-1, 0, 0, 0, -1, 0, 0, 0, 0⟩ : M3)) rfl rfl rfl ?_
      (conv => whnf)
      refine call_pure (rcross_spec (a := ⟨-1, 0, 0⟩) (b := ⟨0, -1, 0⟩) (by unfold V3.bd; simp) (by unfold V3.bd; simp)) rfl rfl rfl ?_
      ((conv => whnf); (repeat (first | (refine ⟨(by kernel_rfl : chk _ _ = true), ?_⟩; (conv => whnf)) | (refine ⟨rfl, ?_⟩; (conv => whnf)) | (refine ⟨Nat.le_of_ble_eq_true rfl, ?_⟩; (conv => whnf)) | (refine ⟨⟨of_decide_eq_true rfl, of_decide_eq_true rfl⟩, ?_⟩; (conv => whnf)))))
      refine call_pure (rtrue_spec (t := ⟨⟨-1, 0, 0, 0, -1, 0, 0, 0, 1⟩, 1⟩) (by decide)) rfl rfl rfl ?_
      ((conv => whnf); (repeat (first | (refine ⟨rfl, ?_⟩; (conv => whnf)) | (refine ⟨Nat.le_of_ble_eq_true rfl, ?_⟩; (conv => whnf)) | (refine ⟨⟨of_decide_eq_true rfl, of_decide_eq_true rfl⟩, ?_⟩; (conv => whnf)) | (refine ⟨fun m h => absurd (own_inj h) (Nat.ne_of_beq_eq_false rfl), ?_⟩; (conv => whnf)) | (refine ⟨fun _ => ?_, fun h => Bool.noConfusion h⟩; (conv => whnf)))))
      exact ⟨2, by omega, by omega, .to ⟨rfl, rfl, rfl, rfl, rfl, trivial⟩ ⟨rfl, rfl, trivial⟩ rfl rfl⟩
    · ((conv => whnf); (repeat (first | (refine ⟨(by kernel_rfl : chk _ _ = true), ?_⟩; (conv => whnf)) | (refine ⟨rfl, ?_⟩; (conv => whnf)) | (refine ⟨Nat.le_of_ble_eq_true rfl, ?_⟩; (conv => whnf)) | (refine ⟨⟨of_decide_eq_true rfl, of_decide_eq_true rfl⟩, ?_⟩; (conv => whnf)) | (refine ⟨fun _ => ?_, fun h => Bool.noConfusion h⟩; (conv => whnf)))))
      refine call_pure (trow0_spec (⟨-1, 0, 0, 0, 0, -1, 0, 0, 0⟩ : M3)) rfl rfl rfl ?_
      ((conv => whnf); (repeat (refine ⟨Nat.le_of_ble_eq_true rfl, ?_⟩; (conv => whnf))))
      refine call_pure (trow1_spec (⟨-1, 0, 0, 0, 0, -1, 0, 0, 0⟩ : M3)) rfl rfl rfl ?_
      (conv => whnf)
      refine call_pure (rcross_spec (a := ⟨-1, 0, 0⟩) (b := ⟨0, 0, -1⟩) (by unfold V3.bd; simp) (by unfold V3.bd; simp)) rfl rfl rfl ?_
      ((conv => whnf); (repeat (first | (refine ⟨(by kernel_rfl : chk _ _ = true), ?_⟩; (conv => whnf)) | (refine ⟨rfl, ?_⟩; (conv => whnf)) | (refine ⟨Nat.le_of_ble_eq_true rfl, ?_⟩; (conv => whnf)) | (refine ⟨⟨of_decide_eq_true rfl, of_decide_eq_true rfl⟩, ?_⟩; (conv => whnf)))))
      refine call_pure (rtrue_spec (t := ⟨⟨-1, 0, 0, 0, 0, -1, 0, -1, 0⟩, 1⟩) (by decide)) rfl rfl rfl ?_
      ((conv => whnf); (repeat (first | (refine ⟨rfl, ?_⟩; (conv => whnf)) | (refine ⟨Nat.le_of_ble_eq_true rfl, ?_⟩; (conv => whnf)) | (refine ⟨⟨of_decide_eq_true rfl, of_decide_eq_true rfl⟩, ?_⟩; (conv => whnf)) | (refine ⟨fun m h => absurd (own_inj h) (Nat.ne_of_beq_eq_false rfl), ?_⟩; (conv => whnf)) | (refine ⟨fun _ => ?_, fun h => Bool.noConfusion h⟩; (conv => whnf)))))
      exact ⟨3, by omega, by omega, .to ⟨rfl, rfl, rfl, rfl, rfl, trivial⟩ ⟨rfl, rfl, trivial⟩ rfl rfl⟩
    · ((conv => whnf); (repeat (first | (refine ⟨(by kernel_rfl : chk _ _ = true), ?_⟩; (conv => whnf)) | (refine ⟨rfl, ?_⟩; (conv => whnf)) | (refine ⟨Nat.le_of_ble_eq_true rfl, ?_⟩; (conv => whnf)) | (refine ⟨⟨of_decide_eq_true rfl, of_decide_eq_true rfl⟩, ?_⟩; (conv => whnf)) | (refine ⟨fun _ => ?_, fun h => Bool.noConfusion h⟩; (conv => whnf)))))
      refine call_pure (trow0_spec (⟨-1, 0, 0, 0, 0, 1, 0, 0, 0⟩ : M3)) rfl rfl rfl ?_
      ((conv => whnf); (repeat (refine ⟨Nat.le_of_ble_eq_true rfl, ?_⟩; (conv => whnf))))
      refine call_pure (trow1_spec (⟨-1, 0, 0, 0, 0, 1, 0, 0, 0⟩ : M3)) rfl rfl rfl ?_
      (conv => whnf)
      refine call_pure (rcross_spec (a := ⟨-1, 0, 0⟩) (b := ⟨0, 0, 1⟩) (by unfold V3.bd; simp) (by unfold V3.bd; simp)) rfl rfl rfl ?_
      ((conv => whnf); (repeat (first | (refine ⟨(by kernel_rfl : chk _ _ = true), ?_⟩; (conv => whnf)) | (refine ⟨rfl, ?_⟩; (conv => whnf)) | (refine ⟨Nat.le_of_ble_eq_true rfl, ?_⟩; (conv => whnf)) | (refine ⟨⟨of_decide_eq_true rfl, of_decide_eq_true rfl⟩, ?_⟩; (conv => whnf)))))
      refine call_pure (rtrue_spec (t := ⟨⟨-1, 0, 0, 0, 0, 1, 0, 1, 0⟩, 1⟩) (by decide)) rfl rfl rfl ?_
      ((conv => whnf); (repeat (first | (refine ⟨rfl, ?_⟩; (conv => whnf)) | (refine ⟨Nat.le_of_ble_eq_true rfl, ?_⟩; (conv => whnf)) | (refine ⟨⟨of_decide_eq_true rfl, of_decide_eq_true rfl⟩, ?_⟩; (conv => whnf)) | (refine ⟨fun m h => absurd (own_inj h) (Nat.ne_of_beq_eq_false rfl), ?_⟩; (conv => whnf)) | (refine ⟨fun _ => ?_, fun h => Bool.noConfusion h⟩; (conv => whnf)))))
      exact ⟨4, by omega, by omega, .to ⟨rfl, rfl, rfl, rfl, rfl, trivial⟩ ⟨rfl, rfl, trivial⟩ rfl rfl⟩
    · ((conv => whnf); (repeat (first | (refine ⟨(by kernel_rfl : chk _ _ = true), ?_⟩; (conv => whnf)) | (refine ⟨rfl, ?_⟩; (conv => whnf)) | (refine ⟨Nat.le_of_ble_eq_true rfl, ?_⟩; (conv => whnf)) | (refine ⟨⟨of_decide_eq_true rfl, of_decide_eq_true rfl⟩, ?_⟩; (conv => whnf)) | (refine ⟨fun _ => ?_, fun h => Bool.noConfusion h⟩; (conv => whnf)))))
      refine call_pure (trow0_spec (⟨-1, 0, 0, 0, 1, 0, 0, 0, 0⟩ : M3)) rfl rfl rfl ?_
      ((conv => whnf); (repeat (refine ⟨Nat.le_of_ble_eq_true rfl, ?_⟩; (conv => whnf))))
      refine call_pure (trow1_spec (⟨-1, 0, 0, 0, 1, 0, 0, 0, 0⟩ : M3)) rfl rfl rfl ?_
      (conv => whnf)
      refine call_pure (rcross_spec (a := ⟨-1, 0, 0⟩) (b := ⟨0, 1, 0⟩) (by unfold V3.bd; simp) (by unfold V3.bd; simp)) rfl rfl rfl ?_
      ((conv => whnf); (repeat (first | (refine ⟨(by kernel_rfl : chk _ _ = true), ?_⟩; (conv => whnf)) | (refine ⟨rfl, ?_⟩; (conv => whnf)) | (refine ⟨Nat.le_of_ble_eq_true rfl, ?_⟩; (conv => whnf)) | (refine ⟨⟨of_decide_eq_true rfl, of_decide_eq_true rfl⟩, ?_⟩; (conv => whnf)))))
      refine call_pure (rtrue_spec (t := ⟨⟨-1, 0, 0, 0, 1, 0, 0, 0, -1⟩, 1⟩) (by decide)) rfl rfl rfl ?_
      ((conv => whnf); (repeat (first | (refine ⟨rfl, ?_⟩; (conv => whnf)) | (refine ⟨Nat.le_of_ble_eq_true rfl, ?_⟩; (conv => whnf)) | (refine ⟨⟨of_decide_eq_true rfl, of_decide_eq_true rfl⟩, ?_⟩; (conv => whnf)) | (refine ⟨fun m h => absurd (own_inj h) (Nat.ne_of_beq_eq_false rfl), ?_⟩; (conv => whnf)) | (refine ⟨fun _ => ?_, fun h => Bool.noConfusion h⟩; (conv => whnf)))))
      exact ⟨5, by omega, by omega, .to ⟨rfl, rfl, rfl, rfl, rfl, trivial⟩ ⟨rfl, rfl, trivial⟩ rfl rfl⟩
    · ((conv => whnf); (repeat (first | (refine ⟨(by kernel_rfl : chk _ _ = true), ?_⟩; (conv => whnf)) | (refine ⟨rfl, ?_⟩; (conv => whnf)) | (refine ⟨Nat.le_of_ble_eq_true rfl, ?_⟩; (conv => whnf)) | (refine ⟨⟨of_decide_eq_true rfl, of_decide_eq_true rfl⟩, ?_⟩; (conv => whnf)) | (refine ⟨fun _ => ?_, fun h => Bool.noConfusion h⟩; (conv => whnf)))))
      refine call_pure (trow0_spec (⟨-1, 0, 0, 1, 0, 0, 0, 0, 0⟩ : M3)) rfl rfl rfl ?_
      ((conv => whnf); (repeat (refine ⟨Nat.le_of_ble_eq_true rfl, ?_⟩; (conv => whnf))))
      refine call_pure (trow1_spec (⟨-1, 0, 0, 1, 0, 0, 0, 0, 0⟩ : M3)) rfl rfl rfl ?_
      (conv => whnf)
      refine call_pure (rcross_spec (a := ⟨-1, 0, 0⟩) (b := ⟨1, 0, 0⟩) (by unfold V3.bd; simp) (by unfold V3.bd; simp)) rfl rfl rfl ?_
      ((conv => whnf); (repeat (first | (refine ⟨(by kernel_rfl : chk _ _ = true), ?_⟩; (conv => whnf)) | (refine ⟨rfl, ?_⟩; (conv => whnf)) | (refine ⟨Nat.le_of_ble_eq_true rfl, ?_⟩; (conv => whnf)) | (refine ⟨⟨of_decide_eq_true rfl, of_decide_eq_true rfl⟩, ?_⟩; (conv => whnf)))))
      refine call_pure (rfalse_spec (t := ⟨⟨-1, 0, 0, 1, 0, 0, 0, 0, 0⟩, 1⟩) (by simp) (by unfold M3.bd; simp) (by decide) (by decide)) rfl rfl rfl ?_
      ((conv => whnf); (repeat (first | (refine ⟨rfl, ?_⟩; (conv => whnf)) | (refine ⟨fun h => Bool.noConfusion h, fun _ => ?_⟩; (conv => whnf)))))
      exact ⟨6, by omega, by omega, .to ⟨rfl, rfl, rfl, rfl, rfl, trivial⟩ ⟨rfl, rfl, trivial⟩ rfl rfl⟩
  · ((conv => whnf); (repeat (first | (refine ⟨rfl, ?_⟩; (conv => whnf)) | (refine ⟨fun _ => ?_, fun h => Bool.noConfusion h⟩; (conv => whnf)))))
    refine W_loop (fun j : Nat => j ≤ 6) (fun j => mk [(0, .c false [.nil]), (1, .c false [.ptr 9 0]), (2, .c false [.own 13 (cntA 1 j)]), (3, .c false [.i ((1 : Nat) : Int)]), (4, .c false [.i j])] [(9, .box bx18), (13, .row 10 ((allT.take (cntA 1 j)).map Tn.cs))] 200) (fun j => 6 - j) 0 (by simp) (.to ⟨rfl, rfl, rfl, rfl, rfl, trivial⟩ ⟨rfl, rfl, trivial⟩ rfl rfl) ?_
    intro j hj
    have hcase : j = 6 ∨ j = 0 ∨ j = 1 ∨ j = 2 ∨ j = 3 ∨ j = 4 ∨ j = 5 := by omega
    rcases hcase with rfl | rfl | rfl | rfl | rfl | rfl | rfl
    · ((conv => whnf); (repeat (first | (refine ⟨rfl, ?_⟩; (conv => whnf)) | (refine ⟨fun h => Bool.noConfusion h, fun _ => ?_⟩; (conv => whnf)))))
      exact ⟨2, by omega, by omega, .to ⟨rfl, rfl, rfl, rfl, trivial⟩ ⟨rfl, rfl, trivial⟩ rfl rfl⟩
    · ((conv => whnf); (repeat (first | (refine ⟨(by kernel_rfl : chk _ _ = true), ?_⟩; (conv => whnf)) | (refine ⟨rfl, ?_⟩; (conv => whnf)) | (refine ⟨Nat.le_of_ble_eq_true rfl, ?_⟩; (conv => whnf)) | (refine ⟨⟨of_decide_eq_true rfl, of_decide_eq_true rfl⟩, ?_⟩; (conv => whnf)) | (refine ⟨fun _ => ?_, fun h => Bool.noConfusion h⟩; (conv => whnf)))))
      refine call_pure (trow0_spec (⟨0, -1, 0, -1, 0, 0, 0, 0, 0⟩ : M3)) rfl rfl rfl ?_
      ((conv => whnf); (repeat (refine ⟨Nat.le_of_ble_eq_true rfl, ?_⟩; (conv => whnf))))
      refine call_pure (trow1_spec (⟨0, -1, 0, -1, 0, 0, 0, 0, 0⟩ : M3)) rfl rfl rfl ?_
      (conv => whnf)
      refine call_pure (rcross_spec (a := ⟨0, -1, 0⟩) (b := ⟨-1, 0, 0⟩) (by unfold V3.bd; simp) (by unfold V3.bd; simp)) rfl rfl rfl ?_
      ((conv => whnf); (repeat (first | (refine ⟨(by kernel_rfl : chk _ _ = true), ?_⟩; (conv => whnf)) | (refine ⟨rfl, ?_⟩; (conv => whnf)) | (refine ⟨Nat.le_of_ble_eq_true rfl, ?_⟩; (conv => whnf)) | (refine ⟨⟨of_decide_eq_true rfl, of_decide_eq_true rfl⟩, ?_⟩; (conv => whnf)))))
      refine call_pure (rtrue_spec (t := ⟨⟨0, -1, 0, -1, 0, 0, 0, 0, -1⟩, 1⟩) (by decide)) rfl rfl rfl ?_
      ((conv => whnf); (repeat (first | (refine ⟨rfl, ?_⟩; (conv => whnf)) | (refine ⟨Nat.le_of_ble_eq_true rfl, ?_⟩; (conv => whnf)) | (refine ⟨⟨of_decide_eq_true rfl, of_decide_eq_true rfl⟩, ?_⟩; (conv => whnf)) | (refine ⟨fun m h => absurd (own_inj h) (Nat.ne_of_beq_eq_false rfl), ?_⟩; (conv => whnf)) | (refine ⟨fun _ => ?_, fun h => Bool.noConfusion h⟩; (conv => whnf)))))
      exact ⟨1, by omega, by omega, .to ⟨rfl, rfl, rfl, rfl, rfl, trivial⟩ ⟨rfl, rfl, trivial⟩ rfl rfl⟩
    · ((conv => whnf); (repeat (first | (refine ⟨(by kernel_rfl : chk _ _ = true), ?_⟩; (conv => whnf)) | (refine ⟨rfl, ?_⟩; (conv => whnf)) | (refine ⟨Nat.le_of_ble_eq_true rfl, ?_⟩; (conv => whnf)) | (refine ⟨⟨of_decide_eq_true rfl, of_decide_eq_true rfl⟩, ?_⟩; (conv => whnf)) | (refine ⟨fun _ => ?_, fun h => Bool.noConfusion h⟩; (conv => whnf)))))
      refine call_pure (trow0_spec (⟨0, -1, 0, 0, -1, 0, 0, 0, 0⟩ : M3)) rfl rfl rfl ?_
      ((conv => whnf); (repeat (refine ⟨Nat.le_of_ble_eq_true rfl, ?_⟩; (conv => whnf))))
      refine call_pure (trow1_spec (⟨0, -1, 0, 0, -1, 0, 0, 0, 0⟩ : M3)) rfl rfl rfl ?_
      (conv => whnf)
      refine call_pure (rcross_spec (a := ⟨0, -1, 0⟩) (b := ⟨0, -1, 0⟩) (by unfold V3.bd; simp) (by unfold V3.bd; simp)) rfl rfl rfl ?_
      ((conv => whnf); (repeat (first | (refine ⟨(by kernel_rfl : chk _ _ = true), ?_⟩; (conv => whnf)) | (refine ⟨rfl, ?_⟩; (conv => whnf)) | (refine ⟨Nat.le_of_ble_eq_true rfl, ?_⟩; (conv => whnf)) | (refine ⟨⟨of_decide_eq_true rfl, of_decide_eq_true rfl⟩, ?_⟩; (conv => whnf)))))
      refine call_pure (rfalse_spec (t := ⟨⟨0, -1, 0, 0, -1, 0, 0, 0, 0⟩, 1⟩) (by simp) (by unfold M3.bd; simp) (by decide) (by decide)) rfl rfl rfl ?_
      ((conv => whnf); (repeat (first | (refine ⟨rfl, ?_⟩; (conv => whnf)) | (refine ⟨fun h => Bool.noConfusion h, fun _ => ?_⟩; (conv => whnf)))))
      exact ⟨2, by omega, by omega, .to ⟨rfl, rfl, rfl, rfl, rfl, trivial⟩ ⟨rfl, rfl, trivial⟩ rfl rfl⟩
    · ((conv => whnf); (repeat (first | (refine ⟨(by kernel_rfl : chk _ _ = true), ?_⟩; (conv => whnf)) | (refine ⟨rfl, ?_⟩; (conv => whnf)) | (refine ⟨Nat.le_of_ble_eq_true rfl, ?_⟩; (conv => whnf)) | (refine ⟨⟨of_decide_eq_true rfl, of_decide_eq_true rfl⟩, ?_⟩; (conv => whnf)) | (refine ⟨fun _ => ?_, fun h => Bool.noConfusion h⟩; (conv => whnf)))))
      refine call_pure (trow0_spec (⟨0, -1, 0, 0, 0, -1, 0, 0, 0⟩ : M3)) rfl rfl rfl ?_
      ((conv => whnf); (repeat (refine ⟨Nat.le_of_ble_eq_true rfl, ?_⟩; (conv => whnf))))
      refine call_pure (trow1_spec (⟨0, -1, 0, 0, 0, -1, 0, 0, 0⟩ : M3)) rfl rfl rfl ?_
      (conv => whnf)
      refine call_pure (rcross_spec (a := ⟨0, -1, 0⟩) (b := ⟨0, 0, -1⟩) (by unfold V3.bd; simp) (by unfold V3.bd; simp)) rfl rfl rfl ?_
      ((conv => whnf); (repeat (first | (refine ⟨(by kernel_rfl : chk _ _ = true), ?_⟩; (conv => whnf)) | (refine ⟨rfl, ?_⟩; (conv => whnf)) | (refine ⟨Nat.le_of_ble_eq_true rfl, ?_⟩; (conv => whnf)) | (refine ⟨⟨of_decide_eq_true rfl, of_decide_eq_true rfl⟩, ?_⟩; (conv => whnf)))))
      refine call_pure (rtrue_spec (t := ⟨⟨0, -1, 0, 0, 0, -1, 1, 0, 0⟩, 1⟩) (by decide)) rfl rfl rfl ?_
      ((conv => whnf); (repeat (first | (refine ⟨rfl, ?_⟩; (conv => whnf)) | (refine ⟨Nat.le_of_ble_eq_true rfl, ?_⟩; (conv => whnf)) | (refine ⟨⟨of_decide_eq_true rfl, of_decide_eq_true rfl⟩, ?_⟩; (conv => whnf)) | (refine ⟨fun m h => absurd (own_inj h) (Nat.ne_of_beq_eq_false rfl), ?_⟩; (conv => whnf)) | (refine ⟨fun _ => ?_, fun h => Bool.noConfusion h⟩; (conv => whnf)))))
      exact ⟨3, by omega, by omega, .to ⟨rfl, rfl, rfl, rfl, rfl, trivial⟩ ⟨rfl, rfl, trivial⟩ rfl rfl⟩
    · ((conv => whnf); (repeat (first | (refine ⟨(by kernel_rfl : chk _ _ = true), ?_⟩; (conv => whnf)) | (refine ⟨rfl, ?_⟩; (conv => whnf)) | (refine ⟨Nat.le_of_ble_eq_true rfl, ?_⟩; (conv => whnf)) | (refine ⟨⟨of_decide_eq_true rfl, of_decide_eq_true rfl⟩, ?_⟩; (conv => whnf)) | (refine ⟨fun _ => ?_, fun h => Bool.noConfusion h⟩; (conv => whnf)))))
      refine call_pure (trow0_spec (⟨0, -1, 0, 0, 0, 1, 0, 0, 0⟩ : M3)) rfl rfl rfl ?_
      ((conv => whnf); (repeat (refine ⟨Nat.le_of_ble_eq_true rfl, ?_⟩; (conv => whnf))))
      refine call_pure (trow1_spec (⟨0, -1, 0, 0, 0, 1, 0, 0, 0⟩ : M3)) rfl rfl rfl ?_
      (conv => whnf)
      refine call_pure (rcross_spec (a := ⟨0, -1, 0⟩) (b := ⟨0, 0, 1⟩) (by unfold V3.bd; simp) (by unfold V3.bd; simp)) rfl rfl rfl ?_
      ((conv => whnf); (repeat (first | (refine ⟨(by kernel_rfl : chk _ _ = true), ?_⟩; (conv => whnf)) | (refine ⟨rfl, ?_⟩; (conv => whnf)) | (refine ⟨Nat.le_of_ble_eq_true rfl, ?_⟩; (conv => whnf)) | (refine ⟨⟨of_decide_eq_true rfl, of_decide_eq_true rfl⟩, ?_⟩; (conv => whnf)))))
      refine call_pure (rtrue_spec (t := ⟨⟨0, -1, 0, 0, 0, 1, -1, 0, 0⟩, 1⟩) (by decide)) rfl rfl rfl ?_
      ((conv => whnf); (repeat (first | (refine ⟨rfl, ?_⟩; (conv => whnf)) | (refine ⟨Nat.le_of_ble_eq_true rfl, ?_⟩; (conv => whnf)) | (refine ⟨⟨of_decide_eq_true rfl, of_decide_eq_true rfl⟩, ?_⟩; (conv => whnf)) | (refine ⟨fun m h => absurd (own_inj h) (Nat.ne_of_beq_eq_false rfl), ?_⟩; (conv => whnf)) | (refine ⟨fun _ => ?_, fun h => Bool.noConfusion h⟩; (conv => whnf)))))
      exact ⟨4, by omega, by omega, .to ⟨rfl, rfl, rfl, rfl, rfl, trivial⟩ ⟨rfl, rfl, trivial⟩ rfl rfl⟩
    · ((conv => whnf); (repeat (first | (refine ⟨(by kernel_rfl : chk _ _ = true), ?_⟩; (conv => whnf)) | (refine ⟨rfl, ?_⟩; (conv => whnf)) | (refine ⟨Nat.le_of_ble_eq_true rfl, ?_⟩; (conv => whnf)) | (refine ⟨⟨of_decide_eq_true rfl, of_decide_eq_true rfl⟩, ?_⟩; (conv => whnf)) | (refine ⟨fun _ => ?_, fun h => Bool.noConfusion h⟩; (conv => whnf)))))
      refine call_pure (trow0_spec (⟨0, -1, 0, 0, 1, 0, 0, 0, 0⟩ : M3)) rfl rfl rfl ?_
      ((conv => whnf); (repeat (refine ⟨Nat.le_of_ble_eq_true rfl, ?_⟩; (conv => whnf))))
      refine call_pure (trow1_spec (⟨0, -1, 0, 0, 1, 0, 0, 0, 0⟩ : M3)) rfl rfl rfl ?_
      (conv => whnf)
      refine call_pure (rcross_spec (a := ⟨0, -1, 0⟩) (b := ⟨0, 1, 0⟩) (by unfold V3.bd; simp) (by unfold V3.bd; simp)) rfl rfl rfl ?_
      ((conv => whnf); (repeat (first | (refine ⟨(by kernel_rfl : chk _ _ = true), ?_⟩; (conv => whnf)) | (refine ⟨rfl, ?_⟩; (conv => whnf)) | (refine ⟨Nat.le_of_ble_eq_true rfl, ?_⟩; (conv => whnf)) | (refine ⟨⟨of_decide_eq_true rfl, of_decide_eq_true rfl⟩, ?_⟩; (conv => whnf)))))
      refine call_pure (rfalse_spec (t := ⟨⟨0, -1, 0, 0, 1, 0, 0, 0, 0⟩, 1⟩) (by simp) (by unfold M3.bd; simp) (by decide) (by decide)) rfl rfl rfl ?_
      ((conv => whnf); (repeat (first | (refine ⟨rfl, ?_⟩; (conv => whnf)) | (refine ⟨fun h => Bool.noConfusion h, fun _ => ?_⟩; (conv => whnf)))))
      exact ⟨5, by omega, by omega, .to ⟨rfl, rfl, rfl, rfl, rfl, trivial⟩ ⟨rfl, rfl, trivial⟩ rfl rfl⟩
    · ((conv => whnf); (repeat (first | (refine ⟨(by kernel_rfl : chk _ _ = true), ?_⟩; (conv => whnf)) | (refine ⟨rfl, ?_⟩; (conv => whnf)) | (refine ⟨Nat.le_of_ble_eq_true rfl, ?_⟩; (conv => whnf)) | (refine ⟨⟨of_decide_eq_true rfl, of_decide_eq_true rfl⟩, ?_⟩; (conv => whnf)) | (refine ⟨fun _ => ?_, fun h => Bool.noConfusion h⟩; (conv => whnf)))))
      refine call_pure (trow0_spec (⟨0, -1, 0, 1, 0, 0, 0, 0, 0⟩ : M3)) rfl rfl rfl ?_
      ((conv => whnf); (repeat (refine ⟨Nat.le_of_ble_eq_true rfl, ?_⟩; (conv => whnf))))
      refine call_pure (trow1_spec (⟨0, -1, 0, 1, 0, 0, 0, 0, 0⟩ : M3)) rfl rfl rfl ?_
      (conv => whnf)
      refine call_pure (rcross_spec (a := ⟨0, -1, 0⟩) (b := ⟨1, 0, 0⟩) (by unfold V3.bd; simp) (by unfold V3.bd; simp)) rfl rfl rfl ?_
      ((conv => whnf); (repeat (first | (refine ⟨(by kernel_rfl : chk _ _ = true), ?_⟩; (conv => whnf)) | (refine ⟨rfl, ?_⟩; (conv => whnf)) | (refine ⟨Nat.le_of_ble_eq_true rfl, ?_⟩; (conv => whnf)) | (refine ⟨⟨of_decide_eq_true rfl, of_decide_eq_true rfl⟩, ?_⟩; (conv => whnf)))))
      refine call_pure (rtrue_spec (t := ⟨⟨0, -1, 0, 1, 0, 0, 0, 0, 1⟩, 1⟩) (by decide)) rfl rfl rfl ?_
      ((conv => whnf); (repeat (first | (refine ⟨rfl, ?_⟩; (conv => whnf)) | (refine ⟨Nat.le_of_ble_eq_true rfl, ?_⟩; (conv => whnf)) | (refine ⟨⟨of_decide_eq_true rfl, of_decide_eq_true rfl⟩, ?_⟩; (conv => whnf)) | (refine ⟨fun m h => absurd (own_inj h) (Nat.ne_of_beq_eq_false rfl), ?_⟩; (conv => whnf)) | (refine ⟨fun _ => ?_, fun h => Bool.noConfusion h⟩; (conv => whnf)))))
      exact ⟨6, by omega, by omega, .to ⟨rfl, rfl, rfl, rfl, rfl, trivial⟩ ⟨rfl, rfl, trivial⟩ rfl rfl⟩
  · ((conv => whnf); (repeat (first | (refine ⟨rfl, ?_⟩; (conv => whnf)) | (refine ⟨fun _ => ?_, fun h => Bool.noConfusion h⟩; (conv => whnf)))))
    refine W_loop (fun j : Nat => j ≤ 6) (fun j => mk [(0, .c false [.nil]), (1, .c false [.ptr 9 0]), (2, .c false [.own 13 (cntA 2 j)]), (3, .c false [.i ((2 : Nat) : Int)]), (4, .c false [.i j])] [(9, .box bx18), (13, .row 10 ((allT.take (cntA 2 j)).map Tn.cs))] 200) (fun j => 6 - j) 0 (by simp) (.to ⟨rfl, rfl, rfl, rfl, rfl, trivial⟩ ⟨rfl, rfl, trivial⟩ rfl rfl) ?_
    intro j hj
    have hcase : j = 6 ∨ j = 0 ∨ j = 1 ∨ j = 2 ∨ j = 3 ∨ j = 4 ∨ j = 5 := by omega
    rcases hcase with rfl | rfl | rfl | rfl | rfl | rfl | rfl
    · ((conv => whnf); (repeat (first | (refine ⟨rfl, ?_⟩; (conv => whnf)) | (refine ⟨fun h => Bool.noConfusion h, fun _ => ?_⟩; (conv => whnf)))))
      exact ⟨3, by omega, by omega, .to ⟨rfl, rfl, rfl, rfl, trivial⟩ ⟨rfl, rfl, trivial⟩ rfl rfl⟩
    · ((conv => whnf); (repeat (first | (refine ⟨(by kernel_rfl : chk _ _ = true), ?_⟩; (conv => whnf)) | (refine ⟨rfl, ?_⟩; (conv => whnf)) | (refine ⟨Nat.le_of_ble_eq_true rfl, ?_⟩; (conv => whnf)) | (refine ⟨⟨of_decide_eq_true rfl, of_decide_eq_true rfl⟩, ?_⟩; (conv => whnf)) | (refine ⟨fun _ => ?_, fun h => Bool.noConfusion h⟩; (conv => whnf)))))
      refine call_pure (trow0_spec (⟨0, 0, -1, -1, 0, 0, 0, 0, 0⟩ : M3)) rfl rfl rfl ?_
      ((conv => whnf); (repeat (refine ⟨Nat.le_of_ble_eq_true rfl, ?_⟩; (conv => whnf))))
      refine call_pure (trow1_spec (⟨0, 0, -1, -1, 0, 0, 0, 0, 0⟩ : M3)) rfl rfl rfl ?_
      (conv => whnf)
      refine call_pure (rcross_spec (a := ⟨0, 0, -1⟩) (b := ⟨-1, 0, 0⟩) (by unfold V3.bd; simp) (by unfold V3.bd; simp)) rfl rfl rfl ?_
      ((conv => whnf); (repeat (first | (refine ⟨(by kernel_rfl : chk _ _ = true), ?_⟩; (conv => whnf)) | (refine ⟨rfl, ?_⟩; (conv => whnf)) | (refine ⟨Nat.le_of_ble_eq_true rfl, ?_⟩; (conv => whnf)) | (refine ⟨⟨of_decide_eq_true rfl, of_decide_eq_true rfl⟩, ?_⟩; (conv => whnf)))))
      refine call_pure (rtrue_spec (t := ⟨⟨0, 0, -1, -1, 0, 0, 0, 1, 0⟩, 1⟩) (by decide)) rfl rfl rfl ?_
      ((conv => whnf); (repeat (first | (refine ⟨rfl, ?_⟩; (conv => whnf)) | (refine ⟨Nat.le_of_ble_eq_true rfl, ?_⟩; (conv => whnf)) | (refine ⟨⟨of_decide_eq_true rfl, of_decide_eq_true rfl⟩, ?_⟩; (conv => whnf)) | (refine ⟨fun m h => absurd (own_inj h) (Nat.ne_of_beq_eq_false rfl), ?_⟩; (conv => whnf)) | (refine ⟨fun _ => ?_, fun h => Bool.noConfusion h⟩; (conv => whnf)))))
      exact ⟨1, by omega, by omega, .to ⟨rfl, rfl, rfl, rfl, rfl, trivial⟩ ⟨rfl, rfl, trivial⟩ rfl rfl⟩
    · ((conv => whnf); (repeat (first | (refine ⟨(by kernel_rfl : chk _ _ = true), ?_⟩; (conv => whnf)) | (refine ⟨rfl, ?_⟩; (conv => whnf)) | (refine ⟨Nat.le_of_ble_eq_true rfl, ?_⟩; (conv => whnf)) | (refine ⟨⟨of_decide_eq_true rfl, of_decide_eq_true rfl⟩, ?_⟩; (conv => whnf)) | (refine ⟨fun _ => ?_, fun h => Bool.noConfusion h⟩; (conv => whnf)))))
      refine call_pure (trow0_spec (⟨0, 0, -1, 0, -1, 0, 0, 0, 0⟩ : M3)) rfl rfl rfl ?_
      ((conv => whnf); (repeat (refine ⟨Nat.le_of_ble_eq_true rfl, ?_⟩; (conv => whnf))))
      refine call_pure (trow1_spec (⟨0, 0, -1, 0, -1, 0, 0, 0, 0⟩ : M3)) rfl rfl rfl ?_
      (conv => whnf)
      refine call_pure (rcross_spec (a := ⟨0, 0, -1⟩) (b := ⟨0, -1, 0⟩) (by unfold V3.bd; simp) (by unfold V3.bd; simp)) rfl rfl rfl ?_
      ((conv => whnf); (repeat (first | (refine ⟨(by kernel_rfl : chk _ _ = true), ?_⟩; (conv => whnf)) | (refine ⟨rfl, ?_⟩; (conv => whnf)) | (refine ⟨Nat.le_of_ble_eq_true rfl, ?_⟩; (conv => whnf)) | (refine ⟨⟨of_decide_eq_true rfl, of_decide_eq_true rfl⟩, ?_⟩; (conv => whnf)))))
      refine call_pure (rtrue_spec (t := ⟨⟨0, 0, -1, 0, -1, 0, -1, 0, 0⟩, 1⟩) (by decide)) rfl rfl rfl ?_
      ((conv => whnf); (repeat (first | (refine ⟨rfl, ?_⟩; (conv => whnf)) | (refine ⟨Nat.le_of_ble_eq_true rfl, ?_⟩; (conv => whnf)) | (refine ⟨⟨of_decide_eq_true rfl, of_decide_eq_true rfl⟩, ?_⟩; (conv => whnf)) | (refine ⟨fun m h => absurd (own_inj h) (Nat.ne_of_beq_eq_false rfl), ?_⟩; (conv => whnf)) | (refine ⟨fun _ => ?_, fun h => Bool.noConfusion h⟩; (conv => whnf)))))
      exact ⟨2, by omega, by omega, .to ⟨rfl, rfl, rfl, rfl, rfl, trivial⟩ ⟨rfl, rfl, trivial⟩ rfl rfl⟩
    · ((conv => whnf); (repeat (first | (refine ⟨(by kernel_rfl : chk _ _ = true), ?_⟩; (conv => whnf)) | (refine ⟨rfl, ?_⟩; (conv => whnf)) | (refine ⟨Nat.le_of_ble_eq_true rfl, ?_⟩; (conv => whnf)) | (refine ⟨⟨of_decide_eq_true rfl, of_decide_eq_true rfl⟩, ?_⟩; (conv => whnf)) | (refine ⟨fun _ => ?_, fun h => Bool.noConfusion h⟩; (conv => whnf)))))
      refine call_pure (trow0_spec (⟨0, 0, -1, 0, 0, -1, 0, 0, 0⟩ : M3)) rfl rfl rfl ?_
      ((conv => whnf); (repeat (refine ⟨Nat.le_of_ble_eq_true rfl, ?_⟩; (conv => whnf))))
      refine call_pure (trow1_spec (⟨0, 0, -1, 0, 0, -1, 0, 0, 0⟩ : M3)) rfl rfl rfl ?_
      (conv => whnf)
      refine call_pure (rcross_spec (a := ⟨0, 0, -1⟩) (b := ⟨0, 0, -1⟩) (by unfold V3.bd; simp) (by unfold V3.bd; simp)) rfl rfl rfl ?_
      ((conv => whnf); (repeat (first | (refine ⟨(by kernel_rfl : chk _ _ = true), ?_⟩; (conv => whnf)) | (refine ⟨rfl, ?_⟩; (conv => whnf)) | (refine ⟨Nat.le_of_ble_eq_true rfl, ?_⟩; (conv => whnf)) | (refine ⟨⟨of_decide_eq_true rfl, of_decide_eq_true rfl⟩, ?_⟩; (conv => whnf)))))
      refine call_pure (rfalse_spec (t := ⟨⟨0, 0, -1, 0, 0, -1, 0, 0, 0⟩, 1⟩) (by simp) (by unfold M3.bd; simp) (by decide) (by decide)) rfl rfl rfl ?_
      ((conv => whnf); (repeat (first | (refine ⟨rfl, ?_⟩; (conv => whnf)) | (refine ⟨fun h => Bool.noConfusion h, fun _ => ?_⟩; (conv => whnf)))))
      exact ⟨3, by omega, by omega, .to ⟨rfl, rfl, rfl, rfl, rfl, trivial⟩ ⟨rfl, rfl, trivial⟩ rfl rfl⟩
    · ((conv => whnf); (repeat (first | (refine ⟨(by kernel_rfl : chk _ _ = true), ?_⟩; (conv => whnf)) | (refine ⟨rfl, ?_⟩; (conv => whnf)) | (refine ⟨Nat.le_of_ble_eq_true rfl, ?_⟩; (conv => whnf)) | (refine ⟨⟨of_decide_eq_true rfl, of_decide_eq_true rfl⟩, ?_⟩; (conv => whnf)) | (refine ⟨fun _ => ?_, fun h => Bool.noConfusion h⟩; (conv => whnf)))))
      refine call_pure (trow0_spec (⟨0, 0, -1, 0, 0, 1, 0, 0, 0⟩ : M3)) rfl rfl rfl ?_
      ((conv => whnf); (repeat (refine ⟨Nat.le_of_ble_eq_true rfl, ?_⟩; (conv => whnf))))
      refine call_pure (trow1_spec (⟨0, 0, -1, 0, 0, 1, 0, 0, 0⟩ : M3)) rfl rfl rfl ?_
      (conv => whnf)
      refine call_pure (rcross_spec (a := ⟨0, 0, -1⟩) (b := ⟨0, 0, 1⟩) (by unfold V3.bd; simp) (by unfold V3.bd; simp)) rfl rfl rfl ?_
      ((conv => whnf); (repeat (first | (refine ⟨(by kernel_rfl : chk _ _ = true), ?_⟩; (conv => whnf)) | (refine ⟨rfl, ?_⟩; (conv => whnf)) | (refine ⟨Nat.le_of_ble_eq_true rfl, ?_⟩; (conv => whnf)) | (refine ⟨⟨of_decide_eq_true rfl, of_decide_eq_true rfl⟩, ?_⟩; (conv => whnf)))))
      refine call_pure (rfalse_spec (t := ⟨⟨0, 0, -1, 0, 0, 1, 0, 0, 0⟩, 1⟩) (by simp) (by unfold M3.bd; simp) (by decide) (by decide)) rfl rfl rfl ?_
      ((conv => whnf); (repeat (first | (refine ⟨rfl, ?_⟩; (conv => whnf)) | (refine ⟨fun h => Bool.noConfusion h, fun _ => ?_⟩; (conv => whnf)))))
      exact ⟨4, by omega, by omega, .to ⟨rfl, rfl, rfl, rfl, rfl, trivial⟩ ⟨rfl, rfl, trivial⟩ rfl rfl⟩
    · ((conv => whnf); (repeat (first | (refine ⟨(by kernel_rfl : chk _ _ = true), ?_⟩; (conv => whnf)) | (refine ⟨rfl, ?_⟩; (conv => whnf)) | (refine ⟨Nat.le_of_ble_eq_true rfl, ?_⟩; (conv => whnf)) | (refine ⟨⟨of_decide_eq_true rfl, of_decide_eq_true rfl⟩, ?_⟩; (conv => whnf)) | (refine ⟨fun _ => ?_, fun h => Bool.noConfusion h⟩; (conv => whnf)))))
      refine call_pure (trow0_spec (⟨0, 0, -1, 0, 1, 0, 0, 0, 0⟩ : M3)) rfl rfl rfl ?_
      ((conv => whnf); (repeat (refine ⟨Nat.le_of_ble_eq_true rfl, ?_⟩; (conv => whnf))))
      refine call_pure (trow1_spec (⟨0, 0, -1, 0, 1, 0, 0, 0, 0⟩ : M3)) rfl rfl rfl ?_
      (conv => whnf)
      refine call_pure (rcross_spec (a := ⟨0, 0, -1⟩) (b := ⟨0, 1, 0⟩) (by unfold V3.bd; simp) (by unfold V3.bd; simp)) rfl rfl rfl ?_
      ((conv => whnf); (repeat (first | (refine ⟨(by kernel_rfl : chk _ _ = true), ?_⟩; (conv => whnf)) | (refine ⟨rfl, ?_⟩; (conv => whnf)) | (refine ⟨Nat.le_of_ble_eq_true rfl, ?_⟩; (conv => whnf)) | (refine ⟨⟨of_decide_eq_true rfl, of_decide_eq_true rfl⟩, ?_⟩; (conv => whnf)))))
      refine call_pure (rtrue_spec (t := ⟨⟨0, 0, -1, 0, 1, 0, 1, 0, 0⟩, 1⟩) (by decide)) rfl rfl rfl ?_
      ((conv => whnf); (repeat (first | (refine ⟨rfl, ?_⟩; (conv => whnf)) | (refine ⟨Nat.le_of_ble_eq_true rfl, ?_⟩; (conv => whnf)) | (refine ⟨⟨of_decide_eq_true rfl, of_decide_eq_true rfl⟩, ?_⟩; (conv => whnf)) | (refine ⟨fun m h => absurd (own_inj h) (Nat.ne_of_beq_eq_false rfl), ?_⟩; (conv => whnf)) | (refine ⟨fun _ => ?_, fun h => Bool.noConfusion h⟩; (conv => whnf)))))
      exact ⟨5, by omega, by omega, .to ⟨rfl, rfl, rfl, rfl, rfl, trivial⟩ ⟨rfl, rfl, trivial⟩ rfl rfl⟩
    · ((conv => whnf); (repeat (first | (refine ⟨(by kernel_rfl : chk _ _ = true), ?_⟩; (conv => whnf)) | (refine ⟨rfl, ?_⟩; (conv => whnf)) | (refine ⟨Nat.le_of_ble_eq_true rfl, ?_⟩; (conv => whnf)) | (refine ⟨⟨of_decide_eq_true rfl, of_decide_eq_true rfl⟩, ?_⟩; (conv => whnf)) | (refine ⟨fun _ => ?_, fun h => Bool.noConfusion h⟩; (conv => whnf)))))
      refine call_pure (trow0_spec (⟨0, 0, -1, 1, 0, 0, 0, 0, 0⟩ : M3)) rfl rfl rfl ?_
      ((conv => whnf); (repeat (refine ⟨Nat.le_of_ble_eq_true rfl, ?_⟩; (conv => whnf))))
      refine call_pure (trow1_spec (⟨0, 0, -1, 1, 0, 0, 0, 0, 0⟩ : M3)) rfl rfl rfl ?_
      (conv => whnf)
      refine call_pure (rcross_spec (a := ⟨0, 0, -1⟩) (b := ⟨1, 0, 0⟩) (by unfold V3.bd; simp) (by unfold V3.bd; simp)) rfl rfl rfl ?_
      ((conv => whnf); (repeat (first | (refine ⟨(by kernel_rfl : chk _ _ = true), ?_⟩; (conv => whnf)) | (refine ⟨rfl, ?_⟩; (conv => whnf)) | (refine ⟨Nat.le_of_ble_eq_true rfl, ?_⟩; (conv => whnf)) | (refine ⟨⟨of_decide_eq_true rfl, of_decide_eq_true rfl⟩, ?_⟩; (conv => whnf)))))
      refine call_pure (rtrue_spec (t := ⟨⟨0, 0, -1, 1, 0, 0, 0, -1, 0⟩, 1⟩) (by decide)) rfl rfl rfl ?_
      ((conv => whnf); (repeat (first | (refine ⟨rfl, ?_⟩; (conv => whnf)) | (refine ⟨Nat.le_of_ble_eq_true rfl, ?_⟩; (conv => whnf)) | (refine ⟨⟨of_decide_eq_true rfl, of_decide_eq_true rfl⟩, ?_⟩; (conv => whnf)) | (refine ⟨fun m h => absurd (own_inj h) (Nat.ne_of_beq_eq_false rfl), ?_⟩; (conv => whnf)) | (refine ⟨fun _ => ?_, fun h => Bool.noConfusion h⟩; (conv => whnf)))))
      exact ⟨6, by omega, by omega, .to ⟨rfl, rfl, rfl, rfl, rfl, trivial⟩ ⟨rfl, rfl, trivial⟩ rfl rfl⟩
  · ((conv => whnf); (repeat (first | (refine ⟨rfl, ?_⟩; (conv => whnf)) | (refine ⟨fun _ => ?_, fun h => Bool.noConfusion h⟩; (conv => whnf)))))
    refine W_loop (fun j : Nat => j ≤ 6) (fun j => mk [(0, .c false [.nil]), (1, .c false [.ptr 9 0]), (2, .c false [.own 13 (cntA 3 j)]), (3, .c false [.i ((3 : Nat) : Int)]), (4, .c false [.i j])] [(9, .box bx18), (13, .row 10 ((allT.take (cntA 3 j)).map Tn.cs))] 200) (fun j => 6 - j) 0 (by simp) (.to ⟨rfl, rfl, rfl, rfl, rfl, trivial⟩ ⟨rfl, rfl, trivial⟩ rfl rfl) ?_
    intro j hj
    have hcase : j = 6 ∨ j = 0 ∨ j = 1 ∨ j = 2 ∨ j = 3 ∨ j = 4 ∨ j = 5 := by omega
    rcases hcase with rfl | rfl | rfl | rfl | rfl | rfl | rfl
    · ((conv => whnf); (repeat (first | (refine ⟨rfl, ?_⟩; (conv => whnf)) | (refine ⟨fun h => Bool.noConfusion h, fun _ => ?_⟩; (conv => whnf)))))
      exact ⟨4, by omega, by omega, .to ⟨rfl, rfl, rfl, rfl, trivial⟩ ⟨rfl, rfl, trivial⟩ rfl rfl⟩
    · ((conv => whnf); (repeat (first | (refine ⟨(by kernel_rfl : chk _ _ = true), ?_⟩; (conv => whnf)) | (refine ⟨rfl, ?_⟩; (conv => whnf)) | (refine ⟨Nat.le_of_ble_eq_true rfl, ?_⟩; (conv => whnf)) | (refine ⟨⟨of_decide_eq_true rfl, of_decide_eq_true rfl⟩, ?_⟩; (conv => whnf)) | (refine ⟨fun _ => ?_, fun h => Bool.noConfusion h⟩; (conv => whnf)))))
      refine call_pure (trow0_spec (⟨0, 0, 1, -1, 0, 0, 0, 0, 0⟩ : M3)) rfl rfl rfl ?_
      ((conv => whnf); (repeat (refine ⟨Nat.le_of_ble_eq_true rfl, ?_⟩; (conv => whnf))))
      refine call_pure (trow1_spec (⟨0, 0, 1, -1, 0, 0, 0, 0, 0⟩ : M3)) rfl rfl rfl ?_
      (conv => whnf)
      refine call_pure (rcross_spec (a := ⟨0, 0, 1⟩) (b := ⟨-1, 0, 0⟩) (by unfold V3.bd; simp) (by unfold V3.bd; simp)) rfl rfl rfl ?_
      ((conv => whnf); (repeat (first | (refine ⟨(by kernel_rfl : chk _ _ = true), ?_⟩; (conv => whnf)) | (refine ⟨rfl, ?_⟩; (conv => whnf)) | (refine ⟨Nat.le_of_ble_eq_true rfl, ?_⟩; (conv => whnf)) | (refine ⟨⟨of_decide_eq_true rfl, of_decide_eq_true rfl⟩, ?_⟩; (conv => whnf)))))
      refine call_pure (rtrue_spec (t := ⟨⟨0, 0, 1, -1, 0, 0, 0, -1, 0⟩, 1⟩) (by decide)) rfl rfl rfl ?_
      ((conv => whnf); (repeat (first | (refine ⟨rfl, ?_⟩; (conv => whnf)) | (refine ⟨Nat.le_of_ble_eq_true rfl, ?_⟩; (conv => whnf)) | (refine ⟨⟨of_decide_eq_true rfl, of_decide_eq_true rfl⟩, ?_⟩; (conv => whnf)) | (refine ⟨fun m h => absurd (own_inj h) (Nat.ne_of_beq_eq_false rfl), ?_⟩; (conv => whnf)) | (refine ⟨fun _ => ?_, fun h => Bool.noConfusion h⟩; (conv => whnf)))))
      exact ⟨1, by omega, by omega, .to ⟨rfl, rfl, rfl, rfl, rfl, trivial⟩ ⟨rfl, rfl, trivial⟩ rfl rfl⟩
    · ((conv => whnf); (repeat (first | (refine ⟨(by kernel_rfl : chk _ _ = true), ?_⟩; (conv => whnf)) | (refine ⟨rfl, ?_⟩; (conv => whnf)) | (refine ⟨Nat.le_of_ble_eq_true rfl, ?_⟩; (conv => whnf)) | (refine ⟨⟨of_decide_eq_true rfl, of_decide_eq_true rfl⟩, ?_⟩; (conv => whnf)) | (refine ⟨fun _ => ?_, fun h => Bool.noConfusion h⟩; (conv => whnf)))))
      refine call_pure (trow0_spec (⟨0, 0, 1, 0, -1, 0, 0, 0, 0⟩ : M3)) rfl rfl rfl ?_
      ((conv => whnf); (repeat (refine ⟨Nat.le_of_ble_eq_true rfl, ?_⟩; (conv => whnf))))
      refine call_pure (trow1_spec (⟨0, 0, 1, 0, -1, 0, 0, 0, 0⟩ : M3)) rfl rfl rfl ?_
      (conv => whnf)
      refine call_pure (rcross_spec (a := ⟨0, 0, 1⟩) (b := ⟨0, -1, 0⟩) (by unfold V3.bd; simp) (by unfold V3.bd; simp)) rfl rfl rfl ?_
      ((conv => whnf); (repeat (first | (refine ⟨(by kernel_rfl : chk _ _ = true), ?_⟩; (conv => whnf)) | (refine ⟨rfl, ?_⟩; (conv => whnf)) | (refine ⟨Nat.le_of_ble_eq_true rfl, ?_⟩; (conv => whnf)) | (refine ⟨⟨of_decide_eq_true rfl, of_decide_eq_true rfl⟩, ?_⟩; (conv => whnf)))))
      refine call_pure (rtrue_spec (t := ⟨⟨0, 0, 1, 0, -1, 0, 1, 0, 0⟩, 1⟩) (by decide)) rfl rfl rfl ?_
      ((conv => whnf); (repeat (first | (refine ⟨rfl, ?_⟩; (conv => whnf)) | (refine ⟨Nat.le_of_ble_eq_true rfl, ?_⟩; (conv => whnf)) | (refine ⟨⟨of_decide_eq_true rfl, of_decide_eq_true rfl⟩, ?_⟩; (conv => whnf)) | (refine ⟨fun m h => absurd (own_inj h) (Nat.ne_of_beq_eq_false rfl), ?_⟩; (conv => whnf)) | (refine ⟨fun _ => ?_, fun h => Bool.noConfusion h⟩; (conv => whnf)))))
      exact ⟨2, by omega, by omega, .to ⟨rfl, rfl, rfl, rfl, rfl, trivial⟩ ⟨rfl, rfl, trivial⟩ rfl rfl⟩
    · ((conv => whnf); (repeat (first | (refine ⟨(by kernel_rfl : chk _ _ = true), ?_⟩; (conv => whnf)) | (refine ⟨rfl, ?_⟩; (conv => whnf)) | (refine ⟨Nat.le_of_ble_eq_true rfl, ?_⟩; (conv => whnf)) | (refine ⟨⟨of_decide_eq_true rfl, of_decide_eq_true rfl⟩, ?_⟩; (conv => whnf)) | (refine ⟨fun _ => ?_, fun h => Bool.noConfusion h⟩; (conv => whnf)))))
      refine call_pure (trow0_spec (⟨0, 0, 1, 0, 0, -1, 0, 0, 0⟩ : M3)) rfl rfl rfl ?_
      ((conv => whnf); (repeat (refine ⟨Nat.le_of_ble_eq_true rfl, ?_⟩; (conv => whnf))))
      refine call_pure (trow1_spec (⟨0, 0, 1, 0, 0, -1, 0, 0, 0⟩ : M3)) rfl rfl rfl ?_
      (conv => whnf)
      refine call_pure (rcross_spec (a := ⟨0, 0, 1⟩) (b := ⟨0, 0, -1⟩) (by unfold V3.bd; simp) (by unfold V3.bd; simp)) rfl rfl rfl ?_
      ((conv => whnf); (repeat (first | (refine ⟨(by kernel_rfl : chk _ _ = true), ?_⟩; (conv => whnf)) | (refine ⟨rfl, ?_⟩; (conv => whnf)) | (refine ⟨Nat.le_of_ble_eq_true rfl, ?_⟩; (conv => whnf)) | (refine ⟨⟨of_decide_eq_true rfl, of_decide_eq_true rfl⟩, ?_⟩; (conv => whnf)))))
      refine call_pure (rfalse_spec (t := ⟨⟨0, 0, 1, 0, 0, -1, 0, 0, 0⟩, 1⟩) (by simp) (by unfold M3.bd; simp) (by decide) (by decide)) rfl rfl rfl ?_
      ((conv => whnf); (repeat (first | (refine ⟨rfl, ?_⟩; (conv => whnf)) | (refine ⟨fun h => Bool.noConfusion h, fun _ => ?_⟩; (conv => whnf)))))
      exact ⟨3, by omega, by omega, .to ⟨rfl, rfl, rfl, rfl, rfl, trivial⟩ ⟨rfl, rfl, trivial⟩ rfl rfl⟩
    · ((conv => whnf); (repeat (first | (refine ⟨(by kernel_rfl : chk _ _ = true), ?_⟩; (conv => whnf)) | (refine ⟨rfl, ?_⟩; (conv => whnf)) | (refine ⟨Nat.le_of_ble_eq_true rfl, ?_⟩; (conv => whnf)) | (refine ⟨⟨of_decide_eq_true rfl, of_decide_eq_true rfl⟩, ?_⟩; (conv => whnf)) | (refine ⟨fun _ => ?_, fun h => Bool.noConfusion h⟩; (conv => whnf)))))
      refine call_pure (trow0_spec (⟨0, 0, 1, 0, 0, 1, 0, 0, 0⟩ : M3)) rfl rfl rfl ?_
      ((conv => whnf); (repeat (refine ⟨Nat.le_of_ble_eq_true rfl, ?_⟩; (conv => whnf))))
      refine call_pure (trow1_spec (⟨0, 0, 1, 0, 0, 1, 0, 0, 0⟩ : M3)) rfl rfl rfl ?_
      (conv => whnf)
      refine call_pure (rcross_spec (a := ⟨0, 0, 1⟩) (b := ⟨0, 0, 1⟩) (by unfold V3.bd; simp) (by unfold V3.bd; simp)) rfl rfl rfl ?_
      ((conv => whnf); (repeat (first | (refine ⟨(by kernel_rfl : chk _ _ = true), ?_⟩; (conv => whnf)) | (refine ⟨rfl, ?_⟩; (conv => whnf)) | (refine ⟨Nat.le_of_ble_eq_true rfl, ?_⟩; (conv => whnf)) | (refine ⟨⟨of_decide_eq_true rfl, of_decide_eq_true rfl⟩, ?_⟩; (conv => whnf)))))
      refine call_pure (rfalse_spec (t := ⟨⟨0, 0, 1, 0, 0, 1, 0, 0, 0⟩, 1⟩) (by simp) (by unfold M3.bd; simp) (by decide) (by decide)) rfl rfl rfl ?_
      ((conv => whnf); (repeat (first | (refine ⟨rfl, ?_⟩; (conv => whnf)) | (refine ⟨fun h => Bool.noConfusion h, fun _ => ?_⟩; (conv => whnf)))))
      exact ⟨4, by omega, by omega, .to ⟨rfl, rfl, rfl, rfl, rfl, trivial⟩ ⟨rfl, rfl, trivial⟩ rfl rfl⟩
    · ((conv => whnf); (repeat (first | (refine ⟨(by kernel_rfl : chk _ _ = true), ?_⟩; (conv => whnf)) | (refine ⟨rfl, ?_⟩; (conv => whnf)) | (refine ⟨Nat.le_of_ble_eq_true rfl, ?_⟩; (conv => whnf)) | (refine ⟨⟨of_decide_eq_true rfl, of_decide_eq_true rfl⟩, ?_⟩; (conv => whnf)) | (refine ⟨fun _ => ?_, fun h => Bool.noConfusion h⟩; (conv => whnf)))))
      refine call_pure (trow0_spec (⟨0, 0, 1, 0, 1, 0, 0, 0, 0⟩ : M3)) rfl rfl rfl ?_
      ((conv => whnf); (repeat (refine ⟨Nat.le_of_ble_eq_true rfl, ?_⟩; (conv => whnf))))
      refine call_pure (trow1_spec (⟨0, 0, 1, 0, 1, 0, 0, 0, 0⟩ : M3)) rfl rfl rfl ?_
      (conv => whnf)
      refine call_pure (rcross_spec (a := ⟨0, 0, 1⟩) (b := ⟨0, 1, 0⟩) (by unfold V3.bd; simp) (by unfold V3.bd; simp)) rfl rfl rfl ?_
      ((conv => whnf); (repeat (first | (refine ⟨(by kernel_rfl : chk _ _ = true), ?_⟩; (conv => whnf)) | (refine ⟨rfl, ?_⟩; (conv => whnf)) | (refine ⟨Nat.le_of_ble_eq_true rfl, ?_⟩; (conv => whnf)) | (refine ⟨⟨of_decide_eq_true rfl, of_decide_eq_true rfl⟩, ?_⟩; (conv => whnf)))))
      refine call_pure (rtrue_spec (t := ⟨⟨0, 0, 1, 0, 1, 0, -1, 0, 0⟩, 1⟩) (by decide)) rfl rfl rfl ?_
      ((conv => whnf); (repeat (first | (refine ⟨rfl, ?_⟩; (conv => whnf)) | (refine ⟨Nat.le_of_ble_eq_true rfl, ?_⟩; (conv => whnf)) | (refine ⟨⟨of_decide_eq_true rfl, of_decide_eq_true rfl⟩, ?_⟩; (conv => whnf)) | (refine ⟨fun m h => absurd (own_inj h) (Nat.ne_of_beq_eq_false rfl), ?_⟩; (conv => whnf)) | (refine ⟨fun _ => ?_, fun h => Bool.noConfusion h⟩; (conv => whnf)))))
      exact ⟨5, by omega, by omega, .to ⟨rfl, rfl, rfl, rfl, rfl, trivial⟩ ⟨rfl, rfl, trivial⟩ rfl rfl⟩
    · ((conv => whnf); (repeat (first | (refine ⟨(by kernel_rfl : chk _ _ = true), ?_⟩; (conv => whnf)) | (refine ⟨rfl, ?_⟩; (conv => whnf)) | (refine ⟨Nat.le_of_ble_eq_true rfl, ?_⟩; (conv => whnf)) | (refine ⟨⟨of_decide_eq_true rfl, of_decide_eq_true rfl⟩, ?_⟩; (conv => whnf)) | (refine ⟨fun _ => ?_, fun h => Bool.noConfusion h⟩; (conv => whnf)))))
      refine call_pure (trow0_spec (⟨0, 0, 1, 1, 0, 0, 0, 0, 0⟩ : M3)) rfl rfl rfl ?_
      ((conv => whnf); (repeat (refine ⟨Nat.le_of_ble_eq_true rfl, ?_⟩; (conv => whnf))))
      refine call_pure (trow1_spec (⟨0, 0, 1, 1, 0, 0, 0, 0, 0⟩ : M3)) rfl rfl rfl ?_
      (conv => whnf)
      refine call_pure (rcross_spec (a := ⟨0, 0, 1⟩) (b := ⟨1, 0, 0⟩) (by unfold V3.bd; simp) (by unfold V3.bd; simp)) rfl rfl rfl ?_
      ((conv => whnf); (repeat (first | (refine ⟨(by kernel_rfl : chk _ _ = true), ?_⟩; (conv => whnf)) | (refine ⟨rfl, ?_⟩; (conv => whnf)) | (refine ⟨Nat.le_of_ble_eq_true rfl, ?_⟩; (conv => whnf)) | (refine ⟨⟨of_decide_eq_true rfl, of_decide_eq_true rfl⟩, ?_⟩; (conv => whnf)))))
      refine call_pure (rtrue_spec (t := ⟨⟨0, 0, 1, 1, 0, 0, 0, 1, 0⟩, 1⟩) (by decide)) rfl rfl rfl ?_
      ((conv => whnf); (repeat (first | (refine ⟨rfl, ?_⟩; (conv => whnf)) | (refine ⟨Nat.le_of_ble_eq_true rfl, ?_⟩; (conv => whnf)) | (refine ⟨⟨of_decide_eq_true rfl, of_decide_eq_true rfl⟩, ?_⟩; (conv => whnf)) | (refine ⟨fun m h => absurd (own_inj h) (Nat.ne_of_beq_eq_false rfl), ?_⟩; (conv => whnf)) | (refine ⟨fun _ => ?_, fun h => Bool.noConfusion h⟩; (conv => whnf)))))
      exact ⟨6, by omega, by omega, .to ⟨rfl, rfl, rfl, rfl, rfl, trivial⟩ ⟨rfl, rfl, trivial⟩ rfl rfl⟩
  · ((conv => whnf); (repeat (first | (refine ⟨rfl, ?_⟩; (conv => whnf)) | (refine ⟨fun _ => ?_, fun h => Bool.noConfusion h⟩; (conv => whnf)))))
    refine W_loop (fun j : Nat => j ≤ 6) (fun j => mk [(0, .c false [.nil]), (1, .c false [.ptr 9 0]), (2, .c false [.own 13 (cntA 4 j)]), (3, .c false [.i ((4 : Nat) : Int)]), (4, .c false [.i j])] [(9, .box bx18), (13, .row 10 ((allT.take (cntA 4 j)).map Tn.cs))] 200) (fun j => 6 - j) 0 (by simp) (.to ⟨rfl, rfl, rfl, rfl, rfl, trivial⟩ ⟨rfl, rfl, trivial⟩ rfl rfl) ?_
    intro j hj
    have hcase : j = 6 ∨ j = 0 ∨ j = 1 ∨ j = 2 ∨ j = 3 ∨ j = 4 ∨ j = 5 := by omega
    rcases hcase with rfl | rfl | rfl | rfl | rfl | rfl | rfl
    · ((conv => whnf); (repeat (first | (refine ⟨rfl, ?_⟩; (conv => whnf)) | (refine ⟨fun h => Bool.noConfusion h, fun _ => ?_⟩; (conv => whnf)))))
      exact ⟨5, by omega, by omega, .to ⟨rfl, rfl, rfl, rfl, trivial⟩ ⟨rfl, rfl, trivial⟩ rfl rfl⟩
    · ((conv => whnf); (repeat (first | (refine ⟨(by kernel_rfl : chk _ _ = true), ?_⟩; (conv => whnf)) | (refine ⟨rfl, ?_⟩; (conv => whnf)) | (refine ⟨Nat.le_of_ble_eq_true rfl, ?_⟩; (conv => whnf)) | (refine ⟨⟨of_decide_eq_true rfl, of_decide_eq_true rfl⟩, ?_⟩; (conv => whnf)) | (refine ⟨fun _ => ?_, fun h => Bool.noConfusion h⟩; (conv => whnf)))))
      refine call_pure (trow0_spec (⟨0, 1, 0, -1, 0, 0, 0, 0, 0⟩ : M3)) rfl rfl rfl ?_
      ((conv => whnf); (repeat (refine ⟨Nat.le_of_ble_eq_true rfl, ?_⟩; (conv => whnf))))
      refine call_pure (trow1_spec (⟨0, 1, 0, -1, 0, 0, 0, 0, 0⟩ : M3)) rfl rfl rfl ?_
      (conv => whnf)
      refine call_pure (rcross_spec (a := ⟨0, 1, 0⟩) (b := ⟨-1, 0, 0⟩) (by unfold V3.bd; simp) (by unfold V3.bd; simp)) rfl rfl rfl ?_
      ((conv => whnf); (repeat (first | (refine ⟨(by kernel_rfl : chk _ _ = true), ?_⟩; (conv => whnf)) | (refine ⟨rfl, ?_⟩; (conv => whnf)) | (refine ⟨Nat.le_of_ble_eq_true rfl, ?_⟩; (conv => whnf)) | (refine ⟨⟨of_decide_eq_true rfl, of_decide_eq_true rfl⟩, ?_⟩; (conv => whnf)))))
      refine call_pure (rtrue_spec (t := ⟨⟨0, 1, 0, -1, 0, 0, 0, 0, 1⟩, 1⟩) (by decide)) rfl rfl rfl ?_
      ((conv => whnf); (repeat (first | (refine ⟨rfl, ?_⟩; (conv => whnf)) | (refine ⟨Nat.le_of_ble_eq_true rfl, ?_⟩; (conv => whnf)) | (refine ⟨⟨of_decide_eq_true rfl, of_decide_eq_true rfl⟩, ?_⟩; (conv => whnf)) | (refine ⟨fun m h => absurd (own_inj h) (Nat.ne_of_beq_eq_false rfl), ?_⟩; (conv => whnf)) | (refine ⟨fun _ => ?_, fun h => Bool.noConfusion h⟩; (conv => whnf)))))
      exact ⟨1, by omega, by omega, .to ⟨rfl, rfl, rfl, rfl, rfl, trivial⟩ ⟨rfl, rfl, trivial⟩ rfl rfl⟩
    · ((conv => whnf); (repeat (first | (refine ⟨(by kernel_rfl : chk _ _ = true), ?_⟩; (conv => whnf)) | (refine ⟨rfl, ?_⟩; (conv => whnf)) | (refine ⟨Nat.le_of_ble_eq_true rfl, ?_⟩; (conv => whnf)) | (refine ⟨⟨of_decide_eq_true rfl, of_decide_eq_true rfl⟩, ?_⟩; (conv => whnf)) | (refine ⟨fun _ => ?_, fun h => Bool.noConfusion h⟩; (conv => whnf)))))
      refine call_pure (trow0_spec (⟨0, 1, 0, 0, -1, 0, 0, 0, 0⟩ : M3)) rfl rfl rfl ?_
      ((conv => whnf); (repeat (refine ⟨Nat.le_of_ble_eq_true rfl, ?_⟩; (conv => whnf))))
      refine call_pure (trow1_spec (⟨0, 1, 0, 0, -1, 0, 0, 0, 0⟩ : M3)) rfl rfl rfl ?_
      (conv => whnf)
      refine call_pure (rcross_spec (a := ⟨0, 1, 0⟩) (b := ⟨0, -1, 0⟩) (by unfold V3.bd; simp) (by unfold V3.bd; simp)) rfl rfl rfl ?_
      ((conv => whnf); (repeat (first | (refine ⟨(by kernel_rfl : chk _ _ = true), ?_⟩; (conv => whnf)) | (refine ⟨rfl, ?_⟩; (conv => whnf)) | (refine ⟨Nat.le_of_ble_eq_true rfl, ?_⟩; (conv => whnf)) | (refine ⟨⟨of_decide_eq_true rfl, of_decide_eq_true rfl⟩, ?_⟩; (conv => whnf)))))
      refine call_pure (rfalse_spec (t := ⟨⟨0, 1, 0, 0, -1, 0, 0, 0, 0⟩, 1⟩) (by simp) (by unfold M3.bd; simp) (by decide) (by decide)) rfl rfl rfl ?_
      ((conv => whnf); (repeat (first | (refine ⟨rfl, ?_⟩; (conv => whnf)) | (refine ⟨fun h => Bool.noConfusion h, fun _ => ?_⟩; (conv => whnf)))))
      exact ⟨2, by omega, by omega, .to ⟨rfl, rfl, rfl, rfl, rfl, trivial⟩ ⟨rfl, rfl, trivial⟩ rfl rfl⟩
    · ((conv => whnf); (repeat (first | (refine ⟨(by kernel_rfl : chk _ _ = true), ?_⟩; (conv => whnf)) | (refine ⟨rfl, ?_⟩; (conv => whnf)) | (refine ⟨Nat.le_of_ble_eq_true rfl, ?_⟩; (conv => whnf)) | (refine ⟨⟨of_decide_eq_true rfl, of_decide_eq_true rfl⟩, ?_⟩; (conv => whnf)) | (refine ⟨fun _ => ?_, fun h => Bool.noConfusion h⟩; (conv => whnf)))))
      refine call_pure (trow0_spec (⟨0, 1, 0, 0, 0, -1, 0, 0, 0⟩ : M3)) rfl rfl rfl ?_
      ((conv => whnf); (repeat (refine ⟨Nat.le_of_ble_eq_true rfl, ?_⟩; (conv => whnf))))
      refine call_pure (trow1_spec (⟨0, 1, 0, 0, 0, -1, 0, 0, 0⟩ : M3)) rfl rfl rfl ?_
      (conv => whnf)
      refine call_pure (rcross_spec (a := ⟨0, 1, 0⟩) (b := ⟨0, 0, -1⟩) (by unfold V3.bd; simp) (by unfold V3.bd; simp)) rfl rfl rfl ?_
      ((conv => whnf); (repeat (first | (refine ⟨(by kernel_rfl : chk _ _ = true), ?_⟩; (conv => whnf)) | (refine ⟨rfl, ?_⟩; (conv => whnf)) | (refine ⟨Nat.le_of_ble_eq_true rfl, ?_⟩; (conv => whnf)) | (refine ⟨⟨of_decide_eq_true rfl, of_decide_eq_true rfl⟩, ?_⟩; (conv => whnf)))))
      refine call_pure (rtrue_spec (t := ⟨⟨0, 1, 0, 0, 0, -1, -1, 0, 0⟩, 1⟩) (by decide)) rfl rfl rfl ?_
      ((conv => whnf); (repeat (first | (refine ⟨rfl, ?_⟩; (conv => whnf)) | (refine ⟨Nat.le_of_ble_eq_true rfl, ?_⟩; (conv => whnf)) | (refine ⟨⟨of_decide_eq_true rfl, of_decide_eq_true rfl⟩, ?_⟩; (conv => whnf)) | (refine ⟨fun m h => absurd (own_inj h) (Nat.ne_of_beq_eq_false rfl), ?_⟩; (conv => whnf)) | (refine ⟨fun _ => ?_, fun h => Bool.noConfusion h⟩; (conv => whnf)))))
      exact ⟨3, by omega, by omega, .to ⟨rfl, rfl, rfl, rfl, rfl, trivial⟩ ⟨rfl, rfl, trivial⟩ rfl rfl⟩
    · ((conv => whnf); (repeat (first | (refine ⟨(by kernel_rfl : chk _ _ = true), ?_⟩; (conv => whnf)) | (refine ⟨rfl, ?_⟩; (conv => whnf)) | (refine ⟨Nat.le_of_ble_eq_true rfl, ?_⟩; (conv => whnf)) | (refine ⟨⟨of_decide_eq_true rfl, of_decide_eq_true rfl⟩, ?_⟩; (conv => whnf)) | (refine ⟨fun _ => ?_, fun h => Bool.noConfusion h⟩; (conv => whnf)))))
      refine call_pure (trow0_spec (⟨0, 1, 0, 0, 0, 1, 0, 0, 0⟩ : M3)) rfl rfl rfl ?_
      ((conv => whnf); (repeat (refine ⟨Nat.le_of_ble_eq_true rfl, ?_⟩; (conv => whnf))))
      refine call_pure (trow1_spec (⟨0, 1, 0, 0, 0, 1, 0, 0, 0⟩ : M3)) rfl rfl rfl ?_
      (conv => whnf)
      refine call_pure (rcross_spec (a := ⟨0, 1, 0⟩) (b := ⟨0, 0, 1⟩) (by unfold V3.bd; simp) (by unfold V3.bd; simp)) rfl rfl rfl ?_
      ((conv => whnf); (repeat (first | (refine ⟨(by kernel_rfl : chk _ _ = true), ?_⟩; (conv => whnf)) | (refine ⟨rfl, ?_⟩; (conv => whnf)) | (refine ⟨Nat.le_of_ble_eq_true rfl, ?_⟩; (conv => whnf)) | (refine ⟨⟨of_decide_eq_true rfl, of_decide_eq_true rfl⟩, ?_⟩; (conv => whnf)))))
      refine call_pure (rtrue_spec (t := ⟨⟨0, 1, 0, 0, 0, 1, 1, 0, 0⟩, 1⟩) (by decide)) rfl rfl rfl ?_
      ((conv => whnf); (repeat (first | (refine ⟨rfl, ?_⟩; (conv => whnf)) | (refine ⟨Nat.le_of_ble_eq_true rfl, ?_⟩; (conv => whnf)) | (refine ⟨⟨of_decide_eq_true rfl, of_decide_eq_true rfl⟩, ?_⟩; (conv => whnf)) | (refine ⟨fun m h => absurd (own_inj h) (Nat.ne_of_beq_eq_false rfl), ?_⟩; (conv => whnf)) | (refine ⟨fun _ => ?_, fun h => Bool.noConfusion h⟩; (conv => whnf)))))
      exact ⟨4, by omega, by omega, .to ⟨rfl, rfl, rfl, rfl, rfl, trivial⟩ ⟨rfl, rfl, trivial⟩ rfl rfl⟩
    · ((conv => whnf); (repeat (first | (refine ⟨(by kernel_rfl : chk _ _ = true), ?_⟩; (conv => whnf)) | (refine ⟨rfl, ?_⟩; (conv => whnf)) | (refine ⟨Nat.le_of_ble_eq_true rfl, ?_⟩; (conv => whnf)) | (refine ⟨⟨of_decide_eq_true rfl, of_decide_eq_true rfl⟩, ?_⟩; (conv => whnf)) | (refine ⟨fun _ => ?_, fun h => Bool.noConfusion h⟩; (conv => whnf)))))
      refine call_pure (trow0_spec (⟨0, 1, 0, 0, 1, 0, 0, 0, 0⟩ : M3)) rfl rfl rfl ?_
      ((conv => whnf); (repeat (refine ⟨Nat.le_of_ble_eq_true rfl, ?_⟩; (conv => whnf))))
      refine call_pure (trow1_spec (⟨0, 1, 0, 0, 1, 0, 0, 0, 0⟩ : M3)) rfl rfl rfl ?_
      (conv => whnf)
      refine call_pure (rcross_spec (a := ⟨0, 1, 0⟩) (b := ⟨0, 1, 0⟩) (by unfold V3.bd; simp) (by unfold V3.bd; simp)) rfl rfl rfl ?_
      ((conv => whnf); (repeat (first | (refine ⟨(by kernel_rfl : chk _ _ = true), ?_⟩; (conv => whnf)) | (refine ⟨rfl, ?_⟩; (conv => whnf)) | (refine ⟨Nat.le_of_ble_eq_true rfl, ?_⟩; (conv => whnf)) | (refine ⟨⟨of_decide_eq_true rfl, of_decide_eq_true rfl⟩, ?_⟩; (conv => whnf)))))
      refine call_pure (rfalse_spec (t := ⟨⟨0, 1, 0, 0, 1, 0, 0, 0, 0⟩, 1⟩) (by simp) (by unfold M3.bd; simp) (by decide) (by decide)) rfl rfl rfl ?_
      ((conv => whnf); (repeat (first | (refine ⟨rfl, ?_⟩; (conv => whnf)) | (refine ⟨fun h => Bool.noConfusion h, fun _ => ?_⟩; (conv => whnf)))))
      exact ⟨5, by omega, by omega, .to ⟨rfl, rfl, rfl, rfl, rfl, trivial⟩ ⟨rfl, rfl, trivial⟩ rfl rfl⟩
    · ((conv => whnf); (repeat (first | (refine ⟨(by kernel_rfl : chk _ _ = true), ?_⟩; (conv => whnf)) | (refine ⟨rfl, ?_⟩; (conv => whnf)) | (refine ⟨Nat.le_of_ble_eq_true rfl, ?_⟩; (conv => whnf)) | (refine ⟨⟨of_decide_eq_true rfl, of_decide_eq_true rfl⟩, ?_⟩; (conv => whnf)) | (refine ⟨fun _ => ?_, fun h => Bool.noConfusion h⟩; (conv => whnf)))))
      refine call_pure (trow0_spec (⟨0, 1, 0, 1, 0, 0, 0, 0, 0⟩ : M3)) rfl rfl rfl ?_
      ((conv => whnf); (repeat (refine ⟨Nat.le_of_ble_eq_true rfl, ?_⟩; (conv => whnf))))
      refine call_pure (trow1_spec (⟨0, 1, 0, 1, 0, 0, 0, 0, 0⟩ : M3)) rfl rfl rfl ?_
      (conv => whnf)
      refine call_pure (rcross_spec (a := ⟨0, 1, 0⟩) (b := ⟨1, 0, 0⟩) (by unfold V3.bd; simp) (by unfold V3.bd; simp)) rfl rfl rfl ?_
      ((conv => whnf); (repeat (first | (refine ⟨(by kernel_rfl : chk _ _ = true), ?_⟩; (conv => whnf)) | (refine ⟨rfl, ?_⟩; (conv => whnf)) | (refine ⟨Nat.le_of_ble_eq_true rfl, ?_⟩; (conv => whnf)) | (refine ⟨⟨of_decide_eq_true rfl, of_decide_eq_true rfl⟩, ?_⟩; (conv => whnf)))))
      refine call_pure (rtrue_spec (t := ⟨⟨0, 1, 0, 1, 0, 0, 0, 0, -1⟩, 1⟩) (by decide)) rfl rfl rfl ?_
      ((conv => whnf); (repeat (first | (refine ⟨rfl, ?_⟩; (conv => whnf)) | (refine ⟨Nat.le_of_ble_eq_true rfl, ?_⟩; (conv => whnf)) | (refine ⟨⟨of_decide_eq_true rfl, of_decide_eq_true rfl⟩, ?_⟩; (conv => whnf)) | (refine ⟨fun m h => absurd (own_inj h) (Nat.ne_of_beq_eq_false rfl), ?_⟩; (conv => whnf)) | (refine ⟨fun _ => ?_, fun h => Bool.noConfusion h⟩; (conv => whnf)))))
      exact ⟨6, by omega, by omega, .to ⟨rfl, rfl, rfl, rfl, rfl, trivial⟩ ⟨rfl, rfl, trivial⟩ rfl rfl⟩
  · ((conv => whnf); (repeat (first | (refine ⟨rfl, ?_⟩; (conv => whnf)) | (refine ⟨fun _ => ?_, fun h => Bool.noConfusion h⟩; (conv => whnf)))))
    refine W_loop (fun j : Nat => j ≤ 6) (fun j => mk [(0, .c false [.nil]), (1, .c false [.ptr 9 0]), (2, .c false [.own 13 (cntA 5 j)]), (3, .c false [.i ((5 : Nat) : Int)]), (4, .c false [.i j])] [(9, .box bx18), (13, .row 10 ((allT.take (cntA 5 j)).map Tn.cs))] 200) (fun j => 6 - j) 0 (by simp) (.to ⟨rfl, rfl, rfl, rfl, rfl, trivial⟩ ⟨rfl, rfl, trivial⟩ rfl rfl) ?_
    intro j hj
    have hcase : j = 6 ∨ j = 0 ∨ j = 1 ∨ j = 2 ∨ j = 3 ∨ j = 4 ∨ j = 5 := by omega
    rcases hcase with rfl | rfl | rfl | rfl | rfl | rfl | rfl
    · ((conv => whnf); (repeat (first | (refine ⟨rfl, ?_⟩; (conv => whnf)) | (refine ⟨fun h => Bool.noConfusion h, fun _ => ?_⟩; (conv => whnf)))))
      exact ⟨6, by omega, by omega, .to ⟨rfl, rfl, rfl, rfl, trivial⟩ ⟨rfl, rfl, trivial⟩ rfl rfl⟩
    · ((conv => whnf); (repeat (first | (refine ⟨(by kernel_rfl : chk _ _ = true), ?_⟩; (conv => whnf)) | (refine ⟨rfl, ?_⟩; (conv => whnf)) | (refine ⟨Nat.le_of_ble_eq_true rfl, ?_⟩; (conv => whnf)) | (refine ⟨⟨of_decide_eq_true rfl, of_decide_eq_true rfl⟩, ?_⟩; (conv => whnf)) | (refine ⟨fun _ => ?_, fun h => Bool.noConfusion h⟩; (conv => whnf)))))
      refine call_pure (trow0_spec (⟨1, 0, 0, -1, 0, 0, 0, 0, 0⟩ : M3)) rfl rfl rfl ?_
      ((conv => whnf); (repeat (refine ⟨Nat.le_of_ble_eq_true rfl, ?_⟩; (conv => whnf))))
      refine call_pure (trow1_spec (⟨1, 0, 0, -1, 0, 0, 0, 0, 0⟩ : M3)) rfl rfl rfl ?_
      (conv => whnf)
      refine call_pure (rcross_spec (a := ⟨1, 0, 0⟩) (b := ⟨-1, 0, 0⟩) (by unfold V3.bd; simp) (by unfold V3.bd; simp)) rfl rfl rfl ?_
      ((conv => whnf); (repeat (first | (refine ⟨(by kernel_rfl : chk _ _ = true), ?_⟩; (conv => whnf)) | (refine ⟨rfl, ?_⟩; (conv => whnf)) | (refine ⟨Nat.le_of_ble_eq_true rfl, ?_⟩; (conv => whnf)) | (refine ⟨⟨of_decide_eq_true rfl, of_decide_eq_true rfl⟩, ?_⟩; (conv => whnf)))))
      refine call_pure (rfalse_spec (t := ⟨⟨1, 0, 0, -1, 0, 0, 0, 0, 0⟩, 1⟩) (by simp) (by unfold M3.bd; simp) (by decide) (by decide)) rfl rfl rfl ?_
      ((conv => whnf); (repeat (first | (refine ⟨rfl, ?_⟩; (conv => whnf)) | (refine ⟨fun h => Bool.noConfusion h, fun _ => ?_⟩; (conv => whnf)))))
      exact ⟨1, by omega, by omega, .to ⟨rfl, rfl, rfl, rfl, rfl, trivial⟩ ⟨rfl, rfl, trivial⟩ rfl rfl⟩
    · ((conv => whnf); (repeat (first | (refine ⟨(by kernel_rfl : chk _ _ = true), ?_⟩; (conv => whnf)) | (refine ⟨rfl, ?_⟩; (conv => whnf)) | (refine ⟨Nat.le_of_ble_eq_true rfl, ?_⟩; (conv => whnf)) | (refine ⟨⟨of_decide_eq_true rfl, of_decide_eq_true rfl⟩, ?_⟩; (conv => whnf)) | (refine ⟨fun _ => ?_, fun h => Bool.noConfusion h⟩; (conv => whnf)))))
      refine call_pure (trow0_spec (⟨1, 0, 0, 0, -1, 0, 0, 0, 0⟩ : M3)) rfl rfl rfl ?_
      ((conv => whnf); (repeat (refine ⟨Nat.le_of_ble_eq_true rfl, ?_⟩; (conv => whnf))))
      refine call_pure (trow1_spec (⟨1, 0, 0, 0, -1, 0, 0, 0, 0⟩ : M3)) rfl rfl rfl ?_
      (conv => whnf)
      refine call_pure (rcross_spec (a := ⟨1, 0, 0⟩) (b := ⟨0, -1, 0⟩) (by unfold V3.bd; simp) (by unfold V3.bd; simp)) rfl rfl rfl ?_
      ((conv => whnf); (repeat (first | (refine ⟨(by kernel_rfl : chk _ _ = true), ?_⟩; (conv => whnf)) | (refine ⟨rfl, ?_⟩; (conv => whnf)) | (refine ⟨Nat.le_of_ble_eq_true rfl, ?_⟩; (conv => whnf)) | (refine ⟨⟨of_decide_eq_true rfl, of_decide_eq_true rfl⟩, ?_⟩; (conv => whnf)))))
      refine call_pure (rtrue_spec (t := ⟨⟨1, 0, 0, 0, -1, 0, 0, 0, -1⟩, 1⟩) (by decide)) rfl rfl rfl ?_
      ((conv => whnf); (repeat (first | (refine ⟨rfl, ?_⟩; (conv => whnf)) | (refine ⟨Nat.le_of_ble_eq_true rfl, ?_⟩; (conv => whnf)) | (refine ⟨⟨of_decide_eq_true rfl, of_decide_eq_true rfl⟩, ?_⟩; (conv => whnf)) | (refine ⟨fun m h => absurd (own_inj h) (Nat.ne_of_beq_eq_false rfl), ?_⟩; (conv => whnf)) | (refine ⟨fun _ => ?_, fun h => Bool.noConfusion h⟩; (conv => whnf)))))
      exact ⟨2, by omega, by omega, .to ⟨rfl, rfl, rfl, rfl, rfl, trivial⟩ ⟨rfl, rfl, trivial⟩ rfl rfl⟩
    · ((conv => whnf); (repeat (first | (refine ⟨(by kernel_rfl : chk _ _ = true), ?_⟩; (conv => whnf)) | (refine ⟨rfl, ?_⟩; (conv => whnf)) | (refine ⟨Nat.le_of_ble_eq_true rfl, ?_⟩; (conv => whnf)) | (refine ⟨⟨of_decide_eq_true rfl, of_decide_eq_true rfl⟩, ?_⟩; (conv => whnf)) | (refine ⟨fun _ => ?_, fun h => Bool.noConfusion h⟩; (conv => whnf)))))
      refine call_pure (trow0_spec (⟨1, 0, 0, 0, 0, -1, 0, 0, 0⟩ : M3)) rfl rfl rfl ?_
      ((conv => whnf); (repeat (refine ⟨Nat.le_of_ble_eq_true rfl, ?_⟩; (conv => whnf))))
      refine call_pure (trow1_spec (⟨1, 0, 0, 0, 0, -1, 0, 0, 0⟩ : M3)) rfl rfl rfl ?_
      (conv => whnf)
      refine call_pure (rcross_spec (a := ⟨1, 0, 0⟩) (b := ⟨0, 0, -1⟩) (by unfold V3.bd; simp) (by unfold V3.bd; simp)) rfl rfl rfl ?_
      ((conv => whnf); (repeat (first | (refine ⟨(by kernel_rfl : chk _ _ = true), ?_⟩; (conv => whnf)) | (refine ⟨rfl, ?_⟩; (conv => whnf)) | (refine ⟨Nat.le_of_ble_eq_true rfl, ?_⟩; (conv => whnf)) | (refine ⟨⟨of_decide_eq_true rfl, of_decide_eq_true rfl⟩, ?_⟩; (conv => whnf)))))
      refine call_pure (rtrue_spec (t := ⟨⟨1, 0, 0, 0, 0, -1, 0, 1, 0⟩, 1⟩) (by decide)) rfl rfl rfl ?_
      ((conv => whnf); (repeat (first | (refine ⟨rfl, ?_⟩; (conv => whnf)) | (refine ⟨Nat.le_of_ble_eq_true rfl, ?_⟩; (conv => whnf)) | (refine ⟨⟨of_decide_eq_true rfl, of_decide_eq_true rfl⟩, ?_⟩; (conv => whnf)) | (refine ⟨fun m h => absurd (own_inj h) (Nat.ne_of_beq_eq_false rfl), ?_⟩; (conv => whnf)) | (refine ⟨fun _ => ?_, fun h => Bool.noConfusion h⟩; (conv => whnf)))))
      exact ⟨3, by omega, by omega, .to ⟨rfl, rfl, rfl, rfl, rfl, trivial⟩ ⟨rfl, rfl, trivial⟩ rfl rfl⟩
    · ((conv => whnf); (repeat (first | (refine ⟨(by kernel_rfl : chk _ _ = true), ?_⟩; (conv => whnf)) | (refine ⟨rfl, ?_⟩; (conv => whnf)) | (refine ⟨Nat.le_of_ble_eq_true rfl, ?_⟩; (conv => whnf)) | (refine ⟨⟨of_decide_eq_true rfl, of_decide_eq_true rfl⟩, ?_⟩; (conv => whnf)) | (refine ⟨fun _ => ?_, fun h => Bool.noConfusion h⟩; (conv => whnf)))))
      refine call_pure (trow0_spec (⟨1, 0, 0, 0, 0, 1, 0, 0, 0⟩ : M3)) rfl rfl rfl ?_
      ((conv => whnf); (repeat (refine ⟨Nat.le_of_ble_eq_true rfl, ?_⟩; (conv => whnf))))
      refine call_pure (trow1_spec (⟨1, 0, 0, 0, 0, 1, 0, 0, 0⟩ : M3)) rfl rfl rfl ?_
      (conv => whnf)
      refine call_pure (rcross_spec (a := ⟨1, 0, 0⟩) (b := ⟨0, 0, 1⟩) (by unfold V3.bd; simp) (by unfold V3.bd; simp)) rfl rfl rfl ?_
      ((conv => whnf); (repeat (first | (refine ⟨(by kernel_rfl : chk _ _ = true), ?_⟩; (conv => whnf)) | (refine ⟨rfl, ?_⟩; (conv => whnf)) | (refine ⟨Nat.le_of_ble_eq_true rfl, ?_⟩; (conv => whnf)) | (refine ⟨⟨of_decide_eq_true rfl, of_decide_eq_true rfl⟩, ?_⟩; (conv => whnf)))))
      refine call_pure (rtrue_spec (t := ⟨⟨1, 0, 0, 0, 0, 1, 0, -1, 0⟩, 1⟩) (by decide)) rfl rfl rfl ?_
      ((conv => whnf); (repeat (first | (refine ⟨rfl, ?_⟩; (conv => whnf)) | (refine ⟨Nat.le_of_ble_eq_true rfl, ?_⟩; (conv => whnf)) | (refine ⟨⟨of_decide_eq_true rfl, of_decide_eq_true rfl⟩, ?_⟩; (conv => whnf)) | (refine ⟨fun m h => absurd (own_inj h) (Nat.ne_of_beq_eq_false rfl), ?_⟩; (conv => whnf)) | (refine ⟨fun _ => ?_, fun h => Bool.noConfusion h⟩; (conv => whnf)))))
      exact ⟨4, by omega, by omega, .to ⟨rfl, rfl, rfl, rfl, rfl, trivial⟩ ⟨rfl, rfl, trivial⟩ rfl rfl⟩
    · ((conv => whnf); (repeat (first | (refine ⟨(by kernel_rfl : chk _ _ = true), ?_⟩; (conv => whnf)) | (refine ⟨rfl, ?_⟩; (conv => whnf)) | (refine ⟨Nat.le_of_ble_eq_true rfl, ?_⟩; (conv => whnf)) | (refine ⟨⟨of_decide_eq_true rfl, of_decide_eq_true rfl⟩, ?_⟩; (conv => whnf)) | (refine ⟨fun _ => ?_, fun h => Bool.noConfusion h⟩; (conv => whnf)))))
      refine call_pure (trow0_spec (⟨1, 0, 0, 0, 1, 0, 0, 0, 0⟩ : M3)) rfl rfl rfl ?_
      ((conv => whnf); (repeat (refine ⟨Nat.le_of_ble_eq_true rfl, ?_⟩; (conv => whnf))))
      refine call_pure (trow1_spec (⟨1, 0, 0, 0, 1, 0, 0, 0, 0⟩ : M3)) rfl rfl rfl ?_
      (conv => whnf)
      refine call_pure (rcross_spec (a := ⟨1, 0, 0⟩) (b := ⟨0, 1, 0⟩) (by unfold V3.bd; simp) (by unfold V3.bd; simp)) rfl rfl rfl ?_
      ((conv => whnf); (repeat (first | (refine ⟨(by kernel_rfl : chk _ _ = true), ?_⟩; (conv => whnf)) | (refine ⟨rfl, ?_⟩; (conv => whnf)) | (refine ⟨Nat.le_of_ble_eq_true rfl, ?_⟩; (conv => whnf)) | (refine ⟨⟨of_decide_eq_true rfl, of_decide_eq_true rfl⟩, ?_⟩; (conv => whnf)))))
      refine call_pure (rtrue_spec (t := ⟨⟨1, 0, 0, 0, 1, 0, 0, 0, 1⟩, 1⟩) (by decide)) rfl rfl rfl ?_
      ((conv => whnf); (repeat (first | (refine ⟨rfl, ?_⟩; (conv => whnf)) | (refine ⟨Nat.le_of_ble_eq_true rfl, ?_⟩; (conv => whnf)) | (refine ⟨⟨of_decide_eq_true rfl, of_decide_eq_true rfl⟩, ?_⟩; (conv => whnf)) | (refine ⟨fun m h => absurd (own_inj h) (Nat.ne_of_beq_eq_false rfl), ?_⟩; (conv => whnf)) | (refine ⟨fun _ => ?_, fun h => Bool.noConfusion h⟩; (conv => whnf)))))
      exact ⟨5, by omega, by omega, .to ⟨rfl, rfl, rfl, rfl, rfl, trivial⟩ ⟨rfl, rfl, trivial⟩ rfl rfl⟩
    · ((conv => whnf); (repeat (first | (refine ⟨(by kernel_rfl : chk _ _ = true), ?_⟩; (conv => whnf)) | (refine ⟨rfl, ?_⟩; (conv => whnf)) | (refine ⟨Nat.le_of_ble_eq_true rfl, ?_⟩; (conv => whnf)) | (refine ⟨⟨of_decide_eq_true rfl, of_decide_eq_true rfl⟩, ?_⟩; (conv => whnf)) | (refine ⟨fun _ => ?_, fun h => Bool.noConfusion h⟩; (conv => whnf)))))
      refine call_pure (trow0_spec (⟨1, 0, 0, 1, 0, 0, 0, 0, 0⟩ : M3)) rfl rfl rfl ?_
      ((conv => whnf); (repeat (refine ⟨Nat.le_of_ble_eq_true rfl, ?_⟩; (conv => whnf))))
      refine call_pure (trow1_spec (⟨1, 0, 0, 1, 0, 0, 0, 0, 0⟩ : M3)) rfl rfl rfl ?_
      (conv => whnf)
      refine call_pure (rcross_spec (a := ⟨1, 0, 0⟩) (b := ⟨1, 0, 0⟩) (by unfold V3.bd; simp) (by unfold V3.bd; simp)) rfl rfl rfl ?_
      ((conv => whnf); (repeat (first | (refine ⟨(by kernel_rfl : chk _ _ = true), ?_⟩; (conv => whnf)) | (refine ⟨rfl, ?_⟩; (conv => whnf)) | (refine ⟨Nat.le_of_ble_eq_true rfl, ?_⟩; (conv => whnf)) | (refine ⟨⟨of_decide_eq_true rfl, of_decide_eq_true rfl⟩, ?_⟩; (conv => whnf)))))
      refine call_pure (rfalse_spec (t := ⟨⟨1, 0, 0, 1, 0, 0, 0, 0, 0⟩, 1⟩) (by simp) (by unfold M3.bd; simp) (by decide) (by decide)) rfl rfl rfl ?_
      ((conv => whnf); (repeat (first | (refine ⟨rfl, ?_⟩; (conv => whnf)) | (refine ⟨fun h => Bool.noConfusion h, fun _ => ?_⟩; (conv => whnf)))))
      exact ⟨6, by omega, by omega, .to ⟨rfl, rfl, rfl, rfl, rfl, trivial⟩ ⟨rfl, rfl, trivial⟩ rfl rfl⟩
end Go.Proofs.YtlbafapmhjfobaaGreatDoor
namespace Go.Proofs.YtlbafapmhjfobaaGreatDoor
set_option maxRecDepth 100000
attribute [local irreducible] LoopW LoopY RngW retPure retFresh retBox retTurn
variable {gl : Nat → Option (List AV)}
def units6 : List V3 := [⟨-1, 0, 0⟩, ⟨0, -1, 0⟩, ⟨0, 0, -1⟩, ⟨0, 0, 1⟩, ⟨0, 1, 0⟩, ⟨1, 0, 0⟩]
set_option maxHeartbeats 8000000
theorem all_spec : Spec Tryz.prog gl 18 none [] (.c false [.own 0 24]) (some (.row 10 (allT.map Tn.cs))) := by
  refine spec_fresh' A18_comp Tryz.func18 Tryz.call18 fol Tryz.ntmps18 Tryz.results18 (argsB_spec rfl) (Nat.le_of_ble_eq_true rfl) (by intro x hx; simp [HE.cells] at hx) ?_ ?_
  · intro x hx; simp [SV.cells] at hx; subst hx; exact .inr rfl
  ((conv => whnf); (repeat (first | (refine ⟨rfl, ?_⟩; (conv => whnf)) | (refine ⟨Nat.le_of_ble_eq_true rfl, ?_⟩; (conv => whnf)))))
  refine W_round ?_
  ((conv => whnf); (repeat (first | (refine ⟨rfl, ?_⟩; (conv => whnf)) | (refine ⟨Nat.le_of_ble_eq_true rfl, ?_⟩; (conv => whnf)) | (refine ⟨⟨of_decide_eq_true rfl, of_decide_eq_true rfl⟩, ?_⟩; (conv => whnf)) | (refine ⟨fun _ => ?_, fun h => Bool.noConfusion h⟩; (conv => whnf)))))
  refine call_pure (sub_spec (a := ⟨0, 0, 0⟩) (b := ⟨1, 0, 0⟩) (by unfold V3.bd; simp) (by unfold V3.bd; simp)) rfl rfl rfl ?_
  ((conv => whnf); (repeat (first | (refine ⟨rfl, ?_⟩; (conv => whnf)) | (refine ⟨Nat.le_of_ble_eq_true rfl, ?_⟩; (conv => whnf)) | (refine ⟨⟨of_decide_eq_true rfl, of_decide_eq_true rfl⟩, ?_⟩; (conv => whnf)))))
  refine W_round ?_
  ((conv => whnf); (repeat (first | (refine ⟨rfl, ?_⟩; (conv => whnf)) | (refine ⟨Nat.le_of_ble_eq_true rfl, ?_⟩; (conv => whnf)) | (refine ⟨⟨of_decide_eq_true rfl, of_decide_eq_true rfl⟩, ?_⟩; (conv => whnf)) | (refine ⟨fun _ => ?_, fun h => Bool.noConfusion h⟩; (conv => whnf)))))
  refine call_pure (sub_spec (a := ⟨0, 0, 0⟩) (b := ⟨0, 1, 0⟩) (by unfold V3.bd; simp) (by unfold V3.bd; simp)) rfl rfl rfl ?_
  ((conv => whnf); (repeat (first | (refine ⟨rfl, ?_⟩; (conv => whnf)) | (refine ⟨Nat.le_of_ble_eq_true rfl, ?_⟩; (conv => whnf)) | (refine ⟨⟨of_decide_eq_true rfl, of_decide_eq_true rfl⟩, ?_⟩; (conv => whnf)) | (refine ⟨fun m h => absurd (own_inj h) (Nat.ne_of_beq_eq_false rfl), ?_⟩; (conv => whnf)))))
  refine W_round ?_
  ((conv => whnf); (repeat (first | (refine ⟨rfl, ?_⟩; (conv => whnf)) | (refine ⟨Nat.le_of_ble_eq_true rfl, ?_⟩; (conv => whnf)) | (refine ⟨⟨of_decide_eq_true rfl, of_decide_eq_true rfl⟩, ?_⟩; (conv => whnf)) | (refine ⟨fun _ => ?_, fun h => Bool.noConfusion h⟩; (conv => whnf)))))
  refine call_pure (sub_spec (a := ⟨0, 0, 0⟩) (b := ⟨0, 0, 1⟩) (by unfold V3.bd; simp) (by unfold V3.bd; simp)) rfl rfl rfl ?_
  ((conv => whnf); (repeat (first | (refine ⟨rfl, ?_⟩; (conv => whnf)) | (refine ⟨Nat.le_of_ble_eq_true rfl, ?_⟩; (conv => whnf)) | (refine ⟨⟨of_decide_eq_true rfl, of_decide_eq_true rfl⟩, ?_⟩; (conv => whnf)) | (refine ⟨fun m h => absurd (own_inj h) (Nat.ne_of_beq_eq_false rfl), ?_⟩; (conv => whnf)))))
  refine W_round ?_
  ((conv => whnf); (repeat (first | (refine ⟨rfl, ?_⟩; (conv => whnf)) | (refine ⟨fun h => Bool.noConfusion h, fun _ => ?_⟩; (conv => whnf)))))
  refine W_round ?_
  ((conv => whnf); (repeat (first | (refine ⟨rfl, ?_⟩; (conv => whnf)) | (refine ⟨Nat.le_of_ble_eq_true rfl, ?_⟩; (conv => whnf)) | (refine ⟨⟨of_decide_eq_true rfl, of_decide_eq_true rfl⟩, ?_⟩; (conv => whnf)) | (refine ⟨fun m h => absurd (own_inj h) (Nat.ne_of_beq_eq_false rfl), ?_⟩; (conv => whnf)) | (refine ⟨fun _ => ?_, fun h => Bool.noConfusion h⟩; (conv => whnf)))))
  refine W_round ?_
  ((conv => whnf); (repeat (first | (refine ⟨rfl, ?_⟩; (conv => whnf)) | (refine ⟨Nat.le_of_ble_eq_true rfl, ?_⟩; (conv => whnf)) | (refine ⟨⟨of_decide_eq_true rfl, of_decide_eq_true rfl⟩, ?_⟩; (conv => whnf)) | (refine ⟨fun m h => absurd (own_inj h) (Nat.ne_of_beq_eq_false rfl), ?_⟩; (conv => whnf)) | (refine ⟨fun _ => ?_, fun h => Bool.noConfusion h⟩; (conv => whnf)))))
  refine W_round ?_
  ((conv => whnf); (repeat (first | (refine ⟨rfl, ?_⟩; (conv => whnf)) | (refine ⟨Nat.le_of_ble_eq_true rfl, ?_⟩; (conv => whnf)) | (refine ⟨⟨of_decide_eq_true rfl, of_decide_eq_true rfl⟩, ?_⟩; (conv => whnf)) | (refine ⟨fun m h => absurd (own_inj h) (Nat.ne_of_beq_eq_false rfl), ?_⟩; (conv => whnf)) | (refine ⟨fun _ => ?_, fun h => Bool.noConfusion h⟩; (conv => whnf)))))
  refine W_round ?_
  ((conv => whnf); (repeat (first | (refine ⟨rfl, ?_⟩; (conv => whnf)) | (refine ⟨fun h => Bool.noConfusion h, fun _ => ?_⟩; (conv => whnf)))))
  refine W_loop (fun i : Nat => i ≤ 6) (fun i => mk [(0, .c false [.nil]), (2, .c false [.own 20 6]), (5, .c false [.own 98 (4 * i)]), (38, .c false [.own 20 6]), (39, .c false [.i 6]), (40, .c false [.i i])] [(20, .row 3 (vcs units6)), (98, .row 10 ((allT.take (4 * i)).map Tn.cs))] 100) (fun i => 6 - i) 0 (by simp) (.trans (Weak.nilslot 5 10 rfl) (.to ⟨rfl, rfl, rfl, rfl, rfl, rfl, trivial⟩ ⟨rfl, rfl, trivial⟩ rfl rfl)) ?_
  intro i hi
  have hcase : i = 6 ∨ i = 0 ∨ i = 1 ∨ i = 2 ∨ i = 3 ∨ i = 4 ∨ i = 5 := by omega
  rcases hcase with rfl | rfl | rfl | rfl | rfl | rfl | rfl
  · ((conv => whnf); (repeat (first | (refine ⟨rfl, ?_⟩; (conv => whnf)) | (refine ⟨fun h => Bool.noConfusion h, fun _ => ?_⟩; (conv => whnf)))))
    exact retFresh_ret 98 rfl rfl ⟨rfl, .inl (by simp [ren]), trivial⟩
  · ((conv => whnf); (repeat (first | (refine ⟨rfl, ?_⟩; (conv => whnf)) | (refine ⟨Nat.le_of_ble_eq_true rfl, ?_⟩; (conv => whnf)) | (refine ⟨⟨of_decide_eq_true rfl, of_decide_eq_true rfl⟩, ?_⟩; (conv => whnf)) | (refine ⟨fun _ => ?_, fun h => Bool.noConfusion h⟩; (conv => whnf)))))
    refine W_loop (fun j : Nat => j ≤ 6) (fun j => mk [(0, .c false [.nil]), (2, .c false [.own 20 6]), (5, .c false [.own 98 (cntA 0 j)]), (38, .c false [.own 20 6]), (39, .c false [.i 6]), (40, .c false [.i ((0 : Nat) : Int)]), (7, .c false [.ptr 103 0]), (44, .c false [.own 20 6]), (45, .c false [.i 6]), (46, .c false [.i j])] [(20, .row 3 (vcs units6)), (98, .row 10 ((allT.take (cntA 0 j)).map Tn.cs)), (103, .box (V3.mk (-1) (0) (0)).cs)] 200) (fun j => 6 - j) 0 (by simp) (.to ⟨rfl, rfl, rfl, rfl, rfl, rfl, rfl, rfl, rfl, rfl, trivial⟩ ⟨rfl, rfl, rfl, trivial⟩ rfl rfl) ?_
    intro j hj
    have hcase : j = 6 ∨ j = 0 ∨ j = 1 ∨ j = 2 ∨ j = 3 ∨ j = 4 ∨ j = 5 := by omega
    rcases hcase with rfl | rfl | rfl | rfl | rfl | rfl | rfl
    · ((conv => whnf); (repeat (first | (refine ⟨rfl, ?_⟩; (conv => whnf)) | (refine ⟨fun h => Bool.noConfusion h, fun _ => ?_⟩; (conv => whnf)))))
      exact ⟨1, by omega, by omega, .to ⟨rfl, rfl, rfl, rfl, rfl, rfl, trivial⟩ ⟨rfl, rfl, trivial⟩ rfl rfl⟩
    · ((conv => whnf); (repeat (first | (refine ⟨rfl, ?_⟩; (conv => whnf)) | (refine ⟨Nat.le_of_ble_eq_true rfl, ?_⟩; (conv => whnf)) | (refine ⟨⟨of_decide_eq_true rfl, of_decide_eq_true rfl⟩, ?_⟩; (conv => whnf)) | (refine ⟨fun _ => ?_, fun h => Bool.noConfusion h⟩; (conv => whnf)))))
      refine call_pure (dot_spec (a := ⟨-1, 0, 0⟩) (b := ⟨-1, 0, 0⟩) (by unfold V3.bd; simp) (by unfold V3.bd; simp)) rfl rfl rfl ?_
      ((conv => whnf); (repeat (first | (refine ⟨rfl, ?_⟩; (conv => whnf)) | (refine ⟨fun h => Bool.noConfusion h, fun _ => ?_⟩; (conv => whnf)))))
      exact ⟨1, by omega, by omega, .to ⟨rfl, rfl, rfl, rfl, rfl, rfl, rfl, rfl, rfl, rfl, trivial⟩ ⟨rfl, rfl, rfl, trivial⟩ rfl rfl⟩
    · ((conv => whnf); (repeat (first | (refine ⟨rfl, ?_⟩; (conv => whnf)) | (refine ⟨Nat.le_of_ble_eq_true rfl, ?_⟩; (conv => whnf)) | (refine ⟨⟨of_decide_eq_true rfl, of_decide_eq_true rfl⟩, ?_⟩; (conv => whnf)) | (refine ⟨fun _ => ?_, fun h => Bool.noConfusion h⟩; (conv => whnf)))))
      refine call_pure (dot_spec (a := ⟨-1, 0, 0⟩) (b := ⟨0, -1, 0⟩) (by unfold V3.bd; simp) (by unfold V3.bd; simp)) rfl rfl rfl ?_
      ((conv => whnf); (repeat (first | (refine ⟨rfl, ?_⟩; (conv => whnf)) | (refine ⟨Nat.le_of_ble_eq_true rfl, ?_⟩; (conv => whnf)) | (refine ⟨fun _ => ?_, fun h => Bool.noConfusion h⟩; (conv => whnf)))))
      refine call_pure (cross_spec (a := ⟨-1, 0, 0⟩) (b := ⟨0, -1, 0⟩) (by unfold V3.bd; simp) (by unfold V3.bd; simp)) rfl rfl rfl ?_
      ((conv => whnf); (repeat (first | (refine ⟨rfl, ?_⟩; (conv => whnf)) | (refine ⟨Nat.le_of_ble_eq_true rfl, ?_⟩; (conv => whnf)) | (refine ⟨⟨of_decide_eq_true rfl, of_decide_eq_true rfl⟩, ?_⟩; (conv => whnf)) | (refine ⟨fun m h => absurd (own_inj h) (Nat.ne_of_beq_eq_false rfl), ?_⟩; (conv => whnf)))))
      exact ⟨2, by omega, by omega, .to ⟨rfl, rfl, rfl, rfl, rfl, rfl, rfl, rfl, rfl, rfl, trivial⟩ ⟨rfl, rfl, rfl, trivial⟩ rfl rfl⟩
    · ((conv => whnf); (repeat (first | (refine ⟨rfl, ?_⟩; (conv => whnf)) | (refine ⟨Nat.le_of_ble_eq_true rfl, ?_⟩; (conv => whnf)) | (refine ⟨⟨of_decide_eq_true rfl, of_decide_eq_true rfl⟩, ?_⟩; (conv => whnf)) | (refine ⟨fun _ => ?_, fun h => Bool.noConfusion h⟩; (conv => whnf)))))
      refine call_pure (dot_spec (a := ⟨-1, 0, 0⟩) (b := ⟨0, 0, -1⟩) (by unfold V3.bd; simp) (by unfold V3.bd; simp)) rfl rfl rfl ?_
      ((conv => whnf); (repeat (first | (refine ⟨rfl, ?_⟩; (conv => whnf)) | (refine ⟨Nat.le_of_ble_eq_true rfl, ?_⟩; (conv => whnf)) | (refine ⟨fun _ => ?_, fun h => Bool.noConfusion h⟩; (conv => whnf)))))
      refine call_pure (cross_spec (a := ⟨-1, 0, 0⟩) (b := ⟨0, 0, -1⟩) (by unfold V3.bd; simp) (by unfold V3.bd; simp)) rfl rfl rfl ?_
      ((conv => whnf); (repeat (first | (refine ⟨rfl, ?_⟩; (conv => whnf)) | (refine ⟨Nat.le_of_ble_eq_true rfl, ?_⟩; (conv => whnf)) | (refine ⟨⟨of_decide_eq_true rfl, of_decide_eq_true rfl⟩, ?_⟩; (conv => whnf)) | (refine ⟨fun m h => absurd (own_inj h) (Nat.ne_of_beq_eq_false rfl), ?_⟩; (conv => whnf)))))
      exact ⟨3, by omega, by omega, .to ⟨rfl, rfl, rfl, rfl, rfl, rfl, rfl, rfl, rfl, rfl, trivial⟩ ⟨rfl, rfl, rfl, trivial⟩ rfl rfl⟩
    · ((conv => whnf); (repeat (first | (refine ⟨rfl, ?_⟩; (conv => whnf)) | (refine ⟨Nat.le_of_ble_eq_true rfl, ?_⟩; (conv => whnf)) | (refine ⟨⟨of_decide_eq_true rfl, of_decide_eq_true rfl⟩, ?_⟩; (conv => whnf)) | (refine ⟨fun _ => ?_, fun h => Bool.noConfusion h⟩; (conv => whnf)))))
      refine call_pure (dot_spec (a := ⟨-1, 0, 0⟩) (b := ⟨0, 0, 1⟩) (by unfold V3.bd; simp) (by unfold V3.bd; simp)) rfl rfl rfl ?_
      ((conv => whnf); (repeat (first | (refine ⟨rfl, ?_⟩; (conv => whnf)) | (refine ⟨Nat.le_of_ble_eq_true rfl, ?_⟩; (conv => whnf)) | (refine ⟨fun _ => ?_, fun h => Bool.noConfusion h⟩; (conv => whnf)))))
      refine call_pure (cross_spec (a := ⟨-1, 0, 0⟩) (b := ⟨0, 0, 1⟩) (by unfold V3.bd; simp) (by unfold V3.bd; simp)) rfl rfl rfl ?_
      ((conv => whnf); (repeat (first | (refine ⟨rfl, ?_⟩; (conv => whnf)) | (refine ⟨Nat.le_of_ble_eq_true rfl, ?_⟩; (conv => whnf)) | (refine ⟨⟨of_decide_eq_true rfl, of_decide_eq_true rfl⟩, ?_⟩; (conv => whnf)) | (refine ⟨fun m h => absurd (own_inj h) (Nat.ne_of_beq_eq_false rfl), ?_⟩; (conv => whnf)))))
      exact ⟨4, by omega, by omega, .to ⟨rfl, rfl, rfl, rfl, rfl, rfl, rfl, rfl, rfl, rfl, trivial⟩ ⟨rfl, rfl, rfl, trivial⟩ rfl rfl⟩
    · ((conv => whnf); (repeat (first | (refine ⟨rfl, ?_⟩; (conv => whnf)) | (refine ⟨Nat.le_of_ble_eq_true rfl, ?_⟩; (conv => whnf)) | (refine ⟨⟨of_decide_eq_true rfl, of_decide_eq_true rfl⟩, ?_⟩; (conv => whnf)) | (refine ⟨fun _ => ?_, fun h => Bool.noConfusion h⟩; (conv => whnf)))))
      refine call_pure (dot_spec (a := ⟨-1, 0, 0⟩) (b := ⟨0, 1, 0⟩) (by unfold V3.bd; simp) (by unfold V3.bd; simp)) rfl rfl rfl ?_
      ((conv => whnf); (repeat (first | (refine ⟨rfl, ?_⟩; (conv => whnf)) | (refine ⟨Nat.le_of_ble_eq_true rfl, ?_⟩; (conv => whnf)) | (refine ⟨fun _ => ?_, fun h => Bool.noConfusion h⟩; (conv => whnf)))))
      refine call_pure (cross_spec (a := ⟨-1, 0, 0⟩) (b := ⟨0, 1, 0⟩) (by unfold V3.bd; simp) (by unfold V3.bd; simp)) rfl rfl rfl ?_
      ((conv => whnf); (repeat (first | (refine ⟨rfl, ?_⟩; (conv => whnf)) | (refine ⟨Nat.le_of_ble_eq_true rfl, ?_⟩; (conv => whnf)) | (refine ⟨⟨of_decide_eq_true rfl, of_decide_eq_true rfl⟩, ?_⟩; (conv => whnf)) | (refine ⟨fun m h => absurd (own_inj h) (Nat.ne_of_beq_eq_false rfl), ?_⟩; (conv => whnf)))))
      exact ⟨5, by omega, by omega, .to ⟨rfl, rfl, rfl, rfl, rfl, rfl, rfl, rfl, rfl, rfl, trivial⟩ ⟨rfl, rfl, rfl, trivial⟩ rfl rfl⟩
    · ((conv => whnf); (repeat (first | (refine ⟨rfl, ?_⟩; (conv => whnf)) | (refine ⟨Nat.le_of_ble_eq_true rfl, ?_⟩; (conv => whnf)) | (refine ⟨⟨of_decide_eq_true rfl, of_decide_eq_true rfl⟩, ?_⟩; (conv => whnf)) | (refine ⟨fun _ => ?_, fun h => Bool.noConfusion h⟩; (conv => whnf)))))
      refine call_pure (dot_spec (a := ⟨-1, 0, 0⟩) (b := ⟨1, 0, 0⟩) (by unfold V3.bd; simp) (by unfold V3.bd; simp)) rfl rfl rfl ?_
      ((conv => whnf); (repeat (first | (refine ⟨rfl, ?_⟩; (conv => whnf)) | (refine ⟨fun h => Bool.noConfusion h, fun _ => ?_⟩; (conv => whnf)))))
      exact ⟨6, by omega, by omega, .to ⟨rfl, rfl, rfl, rfl, rfl, rfl, rfl, rfl, rfl, rfl, trivial⟩ ⟨rfl, rfl, rfl, trivial⟩ rfl rfl⟩
  · ((conv => whnf); (repeat (first | (refine ⟨rfl, ?_⟩; (conv => whnf)) | (refine ⟨Nat.le_of_ble_eq_true rfl, ?_⟩; (conv => whnf)) | (refine ⟨⟨of_decide_eq_true rfl, of_decide_eq_true rfl⟩, ?_⟩; (conv => whnf)) | (refine ⟨fun _ => ?_, fun h => Bool.noConfusion h⟩; (conv => whnf)))))
    refine W_loop (fun j : Nat => j ≤ 6) (fun j => mk [(0, .c false [.nil]), (2, .c false [.own 20 6]), (5, .c false [.own 98 (cntA 1 j)]), (38, .c false [.own 20 6]), (39, .c false [.i 6]), (40, .c false [.i ((1 : Nat) : Int)]), (7, .c false [.ptr 103 0]), (44, .c false [.own 20 6]), (45, .c false [.i 6]), (46, .c false [.i j])] [(20, .row 3 (vcs units6)), (98, .row 10 ((allT.take (cntA 1 j)).map Tn.cs)), (103, .box (V3.mk (0) (-1) (0)).cs)] 200) (fun j => 6 - j) 0 (by simp) (.to ⟨rfl, rfl, rfl, rfl, rfl, rfl, rfl, rfl, rfl, rfl, trivial⟩ ⟨rfl, rfl, rfl, trivial⟩ rfl rfl) ?_
    intro j hj
    have hcase : j = 6 ∨ j = 0 ∨ j = 1 ∨ j = 2 ∨ j = 3 ∨ j = 4 ∨ j = 5 := by omega
    rcases hcase with rfl | rfl | rfl | rfl | rfl | rfl | rfl
    · ((conv => whnf); (repeat (first | (refine ⟨rfl, ?_⟩; (conv => whnf)) | (refine ⟨fun h => Bool.noConfusion h, fun _ => ?_⟩; (conv => whnf)))))
      exact ⟨2, by omega, by omega, .to ⟨rfl, rfl, rfl, rfl, rfl, rfl, trivial⟩ ⟨rfl, rfl, trivial⟩ rfl rfl⟩
    · ((conv => whnf); (repeat (first | (refine ⟨rfl, ?_⟩; (conv => whnf)) | (refine ⟨Nat.le_of_ble_eq_true rfl, ?_⟩; (conv => whnf)) | (refine ⟨⟨of_decide_eq_true rfl, of_decide_eq_true rfl⟩, ?_⟩; (conv => whnf)) | (refine ⟨fun _ => ?_, fun h => Bool.noConfusion h⟩; (conv => whnf)))))
      refine call_pure (dot_spec (a := ⟨0, -1, 0⟩) (b := ⟨-1, 0, 0⟩) (by unfold V3.bd; simp) (by unfold V3.bd; simp)) rfl rfl rfl ?_
      ((conv => whnf); (repeat (first | (refine ⟨rfl, ?_⟩; (conv => whnf)) | (refine ⟨Nat.le_of_ble_eq_true rfl, ?_⟩; (conv => whnf)) | (refine ⟨fun _ => ?_, fun h => Bool.noConfusion h⟩; (conv => whnf)))))
      refine call_pure (cross_spec (a := ⟨0, -1, 0⟩) (b := ⟨-1, 0, 0⟩) (by unfold V3.bd; simp) (by unfold V3.bd; simp)) rfl rfl rfl ?_
      ((conv => whnf); (repeat (first | (refine ⟨rfl, ?_⟩; (conv => whnf)) | (refine ⟨Nat.le_of_ble_eq_true rfl, ?_⟩; (conv => whnf)) | (refine ⟨⟨of_decide_eq_true rfl, of_decide_eq_true rfl⟩, ?_⟩; (conv => whnf)) | (refine ⟨fun m h => absurd (own_inj h) (Nat.ne_of_beq_eq_false rfl), ?_⟩; (conv => whnf)))))
      exact ⟨1, by omega, by omega, .to ⟨rfl, rfl, rfl, rfl, rfl, rfl, rfl, rfl, rfl, rfl, trivial⟩ ⟨rfl, rfl, rfl, trivial⟩ rfl rfl⟩
    · ((conv => whnf); (repeat (first | (refine ⟨rfl, ?_⟩; (conv => whnf)) | (refine ⟨Nat.le_of_ble_eq_true rfl, ?_⟩; (conv => whnf)) | (refine ⟨⟨of_decide_eq_true rfl, of_decide_eq_true rfl⟩, ?_⟩; (conv => whnf)) | (refine ⟨fun _ => ?_, fun h => Bool.noConfusion h⟩; (conv => whnf)))))
      refine call_pure (dot_spec (a := ⟨0, -1, 0⟩) (b := ⟨0, -1, 0⟩) (by unfold V3.bd; simp) (by unfold V3.bd; simp)) rfl rfl rfl ?_
      ((conv => whnf); (repeat (first | (refine ⟨rfl, ?_⟩; (conv => whnf)) | (refine ⟨fun h => Bool.noConfusion h, fun _ => ?_⟩; (conv => whnf)))))
      exact ⟨2, by omega, by omega, .to ⟨rfl, rfl, rfl, rfl, rfl, rfl, rfl, rfl, rfl, rfl, trivial⟩ ⟨rfl, rfl, rfl, trivial⟩ rfl rfl⟩
    · ((conv => whnf); (repeat (first | (refine ⟨rfl, ?_⟩; (conv => whnf)) | (refine ⟨Nat.le_of_ble_eq_true rfl, ?_⟩; (conv => whnf)) | (refine ⟨⟨of_decide_eq_true rfl, of_decide_eq_true rfl⟩, ?_⟩; (conv => whnf)) | (refine ⟨fun _ => ?_, fun h => Bool.noConfusion h⟩; (conv => whnf)))))
      refine call_pure (dot_spec (a := ⟨0, -1, 0⟩) (b := ⟨0, 0, -1⟩) (by unfold V3.bd; simp) (by unfold V3.bd; simp)) rfl rfl rfl ?_
      ((conv => whnf); (repeat (first | (refine ⟨rfl, ?_⟩; (conv => whnf)) | (refine ⟨Nat.le_of_ble_eq_true rfl, ?_⟩; (conv => whnf)) | (refine ⟨fun _ => ?_, fun h => Bool.noConfusion h⟩; (conv => whnf)))))
      refine call_pure (cross_spec (a := ⟨0, -1, 0⟩) (b := ⟨0, 0, -1⟩) (by unfold V3.bd; simp) (by unfold V3.bd; simp)) rfl rfl rfl ?_
      ((conv => whnf); (repeat (first | (refine ⟨rfl, ?_⟩; (conv => whnf)) | (refine ⟨Nat.le_of_ble_eq_true rfl, ?_⟩; (conv => whnf)) | (refine ⟨⟨of_decide_eq_true rfl, of_decide_eq_true rfl⟩, ?_⟩; (conv => whnf)) | (refine ⟨fun m h => absurd (own_inj h) (Nat.ne_of_beq_eq_false rfl), ?_⟩; (conv => whnf)))))
      exact ⟨3, by omega, by omega, .to ⟨rfl, rfl, rfl, rfl, rfl, rfl, rfl, rfl, rfl, rfl, trivial⟩ ⟨rfl, rfl, rfl, trivial⟩ rfl rfl⟩
    · ((conv => whnf); (repeat (first | (refine ⟨rfl, ?_⟩; (conv => whnf)) | (refine ⟨Nat.le_of_ble_eq_true rfl, ?_⟩; (conv => whnf)) | (refine ⟨⟨of_decide_eq_true rfl, of_decide_eq_true rfl⟩, ?_⟩; (conv => whnf)) | (refine ⟨fun _ => ?_, fun h => Bool.noConfusion h⟩; (conv => whnf)))))
      refine call_pure (dot_spec (a := ⟨0, -1, 0⟩) (b := ⟨0, 0, 1⟩) (by unfold V3.bd; simp) (by unfold V3.bd; simp)) rfl rfl rfl ?_
      ((conv => whnf); (repeat (first | (refine ⟨rfl, ?_⟩; (conv => whnf)) | (refine ⟨Nat.le_of_ble_eq_true rfl, ?_⟩; (conv => whnf)) | (refine ⟨fun _ => ?_, fun h => Bool.noConfusion h⟩; (conv => whnf)))))
      refine call_pure (cross_spec (a := ⟨0, -1, 0⟩) (b := ⟨0, 0, 1⟩) (by unfold V3.bd; simp) (by unfold V3.bd; simp)) rfl rfl rfl ?_
      ((conv => whnf); (repeat (first | (refine ⟨rfl, ?_⟩; (conv => whnf)) | (refine ⟨Nat.le_of_ble_eq_true rfl, ?_⟩; (conv => whnf)) | (refine ⟨⟨of_decide_eq_true rfl, of_decide_eq_true rfl⟩, ?_⟩; (conv => whnf)) | (refine ⟨fun m h => absurd (own_inj h) (Nat.ne_of_beq_eq_false rfl), ?_⟩; (conv => whnf)))))
      exact ⟨4, by omega, by omega, .to ⟨rfl, rfl, rfl, rfl, rfl, rfl, rfl, rfl, rfl, rfl, trivial⟩ ⟨rfl, rfl, rfl, trivial⟩ rfl rfl⟩
    · ((conv => whnf); (repeat (first | (refine ⟨rfl, ?_⟩; (conv => whnf)) | (refine ⟨Nat.le_of_ble_eq_true rfl, ?_⟩; (conv => whnf)) | (refine ⟨⟨of_decide_eq_true rfl, of_decide_eq_true rfl⟩, ?_⟩; (conv => whnf)) | (refine ⟨fun _ => ?_, fun h => Bool.noConfusion h⟩; (conv => whnf)))))
      refine call_pure (dot_spec (a := ⟨0, -1, 0⟩) (b := ⟨0, 1, 0⟩) (by unfold V3.bd; simp) (by unfold V3.bd; simp)) rfl rfl rfl ?_
      ((conv => whnf); (repeat (first | (refine ⟨rfl, ?_⟩; (conv => whnf)) | (refine ⟨fun h => Bool.noConfusion h, fun _ => ?_⟩; (conv => whnf)))))
      exact ⟨5, by omega, by omega, .to ⟨rfl, rfl, rfl, rfl, rfl, rfl, rfl, rfl, rfl, rfl, trivial⟩ ⟨rfl, rfl, rfl, trivial⟩ rfl rfl⟩
    · ((conv => whnf); (repeat (first | (refine ⟨rfl, ?_⟩; (conv => whnf)) | (refine ⟨Nat.le_of_ble_eq_true rfl, ?_⟩; (conv => whnf)) | (refine ⟨⟨of_decide_eq_true rfl, of_decide_eq_true rfl⟩, ?_⟩; (conv => whnf)) | (refine ⟨fun _ => ?_, fun h => Bool.noConfusion h⟩; (conv => whnf)))))
      refine call_pure (dot_spec (a := ⟨0, -1, 0⟩) (b := ⟨1, 0, 0⟩) (by unfold V3.bd; simp) (by unfold V3.bd; simp)) rfl rfl rfl ?_
      ((conv => whnf); (repeat (first | (refine ⟨rfl, ?_⟩; (conv => whnf)) | (refine ⟨Nat.le_of_ble_eq_true rfl, ?_⟩; (conv => whnf)) | (refine ⟨fun _ => ?_, fun h => Bool.noConfusion h⟩; (conv => whnf)))))
      refine call_pure (cross_spec (a := ⟨0, -1, 0⟩) (b := ⟨1, 0, 0⟩) (by unfold V3.bd; simp) (by unfold V3.bd; simp)) rfl rfl rfl ?_
      ((conv => whnf); (repeat (first | (refine ⟨rfl, ?_⟩; (conv => whnf)) | (refine ⟨Nat.le_of_ble_eq_true rfl, ?_⟩; (conv => whnf)) | (refine ⟨⟨of_decide_eq_true rfl, of_decide_eq_true rfl⟩, ?_⟩; (conv => whnf)) | (refine ⟨fun m h => absurd (own_inj h) (Nat.ne_of_beq_eq_false rfl), ?_⟩; (conv => whnf)))))
      exact ⟨6, by omega, by omega, .to ⟨rfl, rfl, rfl, rfl, rfl, rfl, rfl, rfl, rfl, rfl, trivial⟩ ⟨rfl, rfl, rfl, trivial⟩ rfl rfl⟩
  · ((conv => whnf); (repeat (first | (refine ⟨rfl, ?_⟩; (conv => whnf)) | (refine ⟨Nat.le_of_ble_eq_true rfl, ?_⟩; (conv => whnf)) | (refine ⟨⟨of_decide_eq_true rfl, of_decide_eq_true rfl⟩, ?_⟩; (conv => whnf)) | (refine ⟨fun _ => ?_, fun h => Bool.noConfusion h⟩; (conv => whnf)))))
    refine W_loop (fun j : Nat => j ≤ 6) (fun j => mk [(0, .c false [.nil]), (2, .c false [.own 20 6]), (5, .c false [.own 98 (cntA 2 j)]), (38, .c false [.own 20 6]), (39, .c false [.i 6]), (40, .c false [.i ((2 : Nat) : Int)]), (7, .c false [.ptr 103 0]), (44, .c false [.own 20 6]), (45, .c false [.i 6]), (46, .c false [.i j])] [(20, .row 3 (vcs units6)), (98, .row 10 ((allT.take (cntA 2 j)).map Tn.cs)), (103, .box (V3.mk (0) (0) (-1)).cs)] 200) (fun j => 6 - j) 0 (by simp) (.to ⟨rfl, rfl, rfl, rfl, rfl, rfl, rfl, rfl, rfl, rfl, trivial⟩ ⟨rfl, rfl, rfl, trivial⟩ rfl rfl) ?_
    intro j hj
    have hcase : j = 6 ∨ j = 0 ∨ j = 1 ∨ j = 2 ∨ j = 3 ∨ j = 4 ∨ j = 5 := by omega
    rcases hcase with rfl | rfl | rfl | rfl | rfl | rfl | rfl
    · ((conv => whnf); (repeat (first | (refine ⟨rfl, ?_⟩; (conv => whnf)) | (refine ⟨fun h => Bool.noConfusion h, fun _ => ?_⟩; (conv => whnf)))))
      exact ⟨3, by omega, by omega, .to ⟨rfl, rfl, rfl, rfl, rfl, rfl, trivial⟩ ⟨rfl, rfl, trivial⟩ rfl rfl⟩
    · ((conv => whnf); (repeat (first | (refine ⟨rfl, ?_⟩; (conv => whnf)) | (refine ⟨Nat.le_of_ble_eq_true rfl, ?_⟩; (conv => whnf)) | (refine ⟨⟨of_decide_eq_true rfl, of_decide_eq_true rfl⟩, ?_⟩; (conv => whnf)) | (refine ⟨fun _ => ?_, fun h => Bool.noConfusion h⟩; (conv => whnf)))))
      refine call_pure (dot_spec (a := ⟨0, 0, -1⟩) (b := ⟨-1, 0, 0⟩) (by unfold V3.bd; simp) (by unfold V3.bd; simp)) rfl rfl rfl ?_
      ((conv => whnf); (repeat (first | (refine ⟨rfl, ?_⟩; (conv => whnf)) | (refine ⟨Nat.le_of_ble_eq_true rfl, ?_⟩; (conv => whnf)) | (refine ⟨fun _ => ?_, fun h => Bool.noConfusion h⟩; (conv => whnf)))))
      refine call_pure (cross_spec (a := ⟨0, 0, -1⟩) (b := ⟨-1, 0, 0⟩) (by unfold V3.bd; simp) (by unfold V3.bd; simp)) rfl rfl rfl ?_
      ((conv => whnf); (repeat (first | (refine ⟨rfl, ?_⟩; (conv => whnf)) | (refine ⟨Nat.le_of_ble_eq_true rfl, ?_⟩; (conv => whnf)) | (refine ⟨⟨of_decide_eq_true rfl, of_decide_eq_true rfl⟩, ?_⟩; (conv => whnf)) | (refine ⟨fun m h => absurd (own_inj h) (Nat.ne_of_beq_eq_false rfl), ?_⟩; (conv => whnf)))))
      exact ⟨1, by omega, by omega, .to ⟨rfl, rfl, rfl, rfl, rfl, rfl, rfl, rfl, rfl, rfl, trivial⟩ ⟨rfl, rfl, rfl, trivial⟩ rfl rfl⟩
    · ((conv => whnf); (repeat (first | (refine ⟨rfl, ?_⟩; (conv => whnf)) | (refine ⟨Nat.le_of_ble_eq_true rfl, ?_⟩; (conv => whnf)) | (refine ⟨⟨of_decide_eq_true rfl, of_decide_eq_true rfl⟩, ?_⟩; (conv => whnf)) | (refine ⟨fun _ => ?_, fun h => Bool.noConfusion h⟩; (conv => whnf)))))
      refine call_pure (dot_spec (a := ⟨0, 0, -1⟩) (b := ⟨0, -1, 0⟩) (by unfold V3.bd; simp) (by unfold V3.bd; simp)) rfl rfl rfl ?_
      ((conv => whnf); (repeat (first | (refine ⟨rfl, ?_⟩; (conv => whnf)) | (refine ⟨Nat.le_of_ble_eq_true rfl, ?_⟩; (conv => whnf)) | (refine ⟨fun _ => ?_, fun h => Bool.noConfusion h⟩; (conv => whnf)))))
      refine call_pure (cross_spec (a := ⟨0, 0, -1⟩) (b := ⟨0, -1, 0⟩) (by unfold V3.bd; simp) (by unfold V3.bd; simp)) rfl rfl rfl ?_
      ((conv => whnf); (repeat (first | (refine ⟨rfl, ?_⟩; (conv => whnf)) | (refine ⟨Nat.le_of_ble_eq_true rfl, ?_⟩; (conv => whnf)) | (refine ⟨⟨of_decide_eq_true rfl, of_decide_eq_true rfl⟩, ?_⟩; (conv => whnf)) | (refine ⟨fun m h => absurd (own_inj h) (Nat.ne_of_beq_eq_false rfl), ?_⟩; (conv => whnf)))))
      exact ⟨2, by omega, by omega, .to ⟨rfl, rfl, rfl, rfl, rfl, rfl, rfl, rfl, rfl, rfl, trivial⟩ ⟨rfl, rfl, rfl, trivial⟩ rfl rfl⟩
    · ((conv => whnf); (repeat (first | (refine ⟨rfl, ?_⟩; (conv => whnf)) | (refine ⟨Nat.le_of_ble_eq_true rfl, ?_⟩; (conv => whnf)) | (refine ⟨⟨of_decide_eq_true rfl, of_decide_eq_true rfl⟩, ?_⟩; (conv => whnf)) | (refine ⟨fun _ => ?_, fun h => Bool.noConfusion h⟩; (conv => whnf)))))
      refine call_pure (dot_spec (a := ⟨0, 0, -1⟩) (b := ⟨0, 0, -1⟩) (by unfold V3.bd; simp) (by unfold V3.bd; simp)) rfl rfl rfl ?_
      ((conv => whnf); (repeat (first | (refine ⟨rfl, ?_⟩; (conv => whnf)) | (refine ⟨fun h => Bool.noConfusion h, fun _ => ?_⟩; (conv => whnf)))))
      exact ⟨3, by omega, by omega, .to ⟨rfl, rfl, rfl, rfl, rfl, rfl, rfl, rfl, rfl, rfl, trivial⟩ ⟨rfl, rfl, rfl, trivial⟩ rfl rfl⟩
    · ((conv => whnf); (repeat (first | (refine ⟨rfl, ?_⟩; (conv => whnf)) | (refine ⟨Nat.le_of_ble_eq_true rfl, ?_⟩; (conv => whnf)) | (refine ⟨⟨of_decide_eq_true rfl, of_decide_eq_true rfl⟩, ?_⟩; (conv => whnf)) | (refine ⟨fun _ => ?_, fun h => Bool.noConfusion h⟩; (conv => whnf)))))
      refine call_pure (dot_spec (a := ⟨0, 0, -1⟩) (b := ⟨0, 0, 1⟩) (by unfold V3.bd; simp) (by unfold V3.bd; simp)) rfl rfl rfl ?_
      ((conv => whnf); (repeat (first | (refine ⟨rfl, ?_⟩; (conv => whnf)) | (refine ⟨fun h => Bool.noConfusion h, fun _ => ?_⟩; (conv => whnf)))))
      exact ⟨4, by omega, by omega, .to ⟨rfl, rfl, rfl, rfl, rfl, rfl, rfl, rfl, rfl, rfl, trivial⟩ ⟨rfl, rfl, rfl, trivial⟩ rfl rfl⟩
    · ((conv => whnf); (repeat (first | (refine ⟨rfl, ?_⟩; (conv => whnf)) | (refine ⟨Nat.le_of_ble_eq_true rfl, ?_⟩; (conv => whnf)) | (refine ⟨⟨of_decide_eq_true rfl, of_decide_eq_true rfl⟩, ?_⟩; (conv => whnf)) | (refine ⟨fun _ => ?_, fun h => Bool.noConfusion h⟩; (conv => whnf)))))
      refine call_pure (dot_spec (a := ⟨0, 0, -1⟩) (b := ⟨0, 1, 0⟩) (by unfold V3.bd; simp) (by unfold V3.bd; simp)) rfl rfl rfl ?_
      ((conv => whnf); (repeat (first | (refine ⟨rfl, ?_⟩; (conv => whnf)) | (refine ⟨Nat.le_of_ble_eq_true rfl, ?_⟩; (conv => whnf)) | (refine ⟨fun _ => ?_, fun h => Bool.noConfusion h⟩; (conv => whnf)))))
      refine call_pure (cross_spec (a := ⟨0, 0, -1⟩) (b := ⟨0, 1, 0⟩) (by unfold V3.bd; simp) (by unfold V3.bd; simp)) rfl rfl rfl ?_
      ((conv => whnf); (repeat (first | (refine ⟨rfl, ?_⟩; (conv => whnf)) | (refine ⟨Nat.le_of_ble_eq_true rfl, ?_⟩; (conv => whnf)) | (refine ⟨⟨of_decide_eq_true rfl, of_decide_eq_true rfl⟩, ?_⟩; (conv => whnf)) | (refine ⟨fun m h => absurd (own_inj h) (Nat.ne_of_beq_eq_false rfl), ?_⟩; (conv => whnf)))))
      exact ⟨5, by omega, by omega, .to ⟨rfl, rfl, rfl, rfl, rfl, rfl, rfl, rfl, rfl, rfl, trivial⟩ ⟨rfl, rfl, rfl, trivial⟩ rfl rfl⟩
    · ((conv => whnf); (repeat (first | (refine ⟨rfl, ?_⟩; (conv => whnf)) | (refine ⟨Nat.le_of_ble_eq_true rfl, ?_⟩; (conv => whnf)) | (refine ⟨⟨of_decide_eq_true rfl, of_decide_eq_true rfl⟩, ?_⟩; (conv => whnf)) | (refine ⟨fun _ => ?_, fun h => Bool.noConfusion h⟩; (conv => whnf)))))
      refine call_pure (dot_spec (a := ⟨0, 0, -1⟩) (b := ⟨1, 0, 0⟩) (by unfold V3.bd; simp) (by unfold V3.bd; simp)) rfl rfl rfl ?_
      ((conv => whnf); (repeat (first | (refine ⟨rfl, ?_⟩; (conv => whnf)) | (refine ⟨Nat.le_of_ble_eq_true rfl, ?_⟩; (conv => whnf)) | (refine ⟨fun _ => ?_, fun h => Bool.noConfusion h⟩; (conv => whnf)))))
      refine call_pure (cross_spec (a := ⟨0, 0, -1⟩) (b := ⟨1, 0, 0⟩) (by unfold V3.bd; simp) (by unfold V3.bd; simp)) rfl rfl rfl ?_
      ((conv => whnf); (repeat (first | (refine ⟨rfl, ?_⟩; (conv => whnf)) | (refine ⟨Nat.le_of_ble_eq_true rfl, ?_⟩; (conv => whnf)) | (refine ⟨⟨of_decide_eq_true rfl, of_decide_eq_true rfl⟩, ?_⟩; (conv => whnf)) | (refine ⟨fun m h => absurd (own_inj h) (Nat.ne_of_beq_eq_false rfl), ?_⟩; (conv => whnf)))))
      exact ⟨6, by omega, by omega, .to ⟨rfl, rfl, rfl, rfl, rfl, rfl, rfl, rfl, rfl, rfl, trivial⟩ ⟨rfl, rfl, rfl, trivial⟩ rfl rfl⟩
  · ((conv => whnf); (repeat (first | (refine ⟨rfl, ?_⟩; (conv => whnf)) | (refine ⟨Nat.le_of_ble_eq_true rfl, ?_⟩; (conv => whnf)) | (refine ⟨⟨of_decide_eq_true rfl, of_decide_eq_true rfl⟩, ?_⟩; (conv => whnf)) | (refine ⟨fun _ => ?_, fun h => Bool.noConfusion h⟩; (conv => whnf)))))
    refine W_loop (fun j : Nat => j ≤ 6) (fun j => mk [(0, .c false [.nil]), (2, .c false [.own 20 6]), (5, .c false [.own 98 (cntA 3 j)]), (38, .c false [.own 20 6]), (39, .c false [.i 6]), (40, .c false [.i ((3 : Nat) : Int)]), (7, .c false [.ptr 103 0]), (44, .c false [.own 20 6]), (45, .c false [.i 6]), (46, .c false [.i j])] [(20, .row 3 (vcs units6)), (98, .row 10 ((allT.take (cntA 3 j)).map Tn.cs)), (103, .box (V3.mk (0) (0) (1)).cs)] 200) (fun j => 6 - j) 0 (by simp) (.to ⟨rfl, rfl, rfl, rfl, rfl, rfl, rfl, rfl, rfl, rfl, trivial⟩ ⟨rfl, rfl, rfl, trivial⟩ rfl rfl) ?_
    intro j hj
    have hcase : j = 6 ∨ j = 0 ∨ j = 1 ∨ j = 2 ∨ j = 3 ∨ j = 4 ∨ j = 5 := by omega
    rcases hcase with rfl | rfl | rfl | rfl | rfl | rfl | rfl
    · ((conv => whnf); (repeat (first | (refine ⟨rfl, ?_⟩; (conv => whnf)) | (refine ⟨fun h => Bool.noConfusion h, fun _ => ?_⟩; (conv => whnf)))))
      exact ⟨4, by omega, by omega, .to ⟨rfl, rfl, rfl, rfl, rfl, rfl, trivial⟩ ⟨rfl, rfl, trivial⟩ rfl rfl⟩
    · ((conv => whnf); (repeat (first | (refine ⟨rfl, ?_⟩; (conv => whnf)) | (refine ⟨Nat.le_of_ble_eq_true rfl, ?_⟩; (conv => whnf)) | (refine ⟨⟨of_decide_eq_true rfl, of_decide_eq_true rfl⟩, ?_⟩; (conv => whnf)) | (refine ⟨fun _ => ?_, fun h => Bool.noConfusion h⟩; (conv => whnf)))))
      refine call_pure (dot_spec (a := ⟨0, 0, 1⟩) (b := ⟨-1, 0, 0⟩) (by unfold V3.bd; simp) (by unfold V3.bd; simp)) rfl rfl rfl ?_
      ((conv => whnf); (repeat (first | (refine ⟨rfl, ?_⟩; (conv => whnf)) | (refine ⟨Nat.le_of_ble_eq_true rfl, ?_⟩; (conv => whnf)) | (refine ⟨fun _ => ?_, fun h => Bool.noConfusion h⟩; (conv => whnf)))))
      refine call_pure (cross_spec (a := ⟨0, 0, 1⟩) (b := ⟨-1, 0, 0⟩) (by unfold V3.bd; simp) (by unfold V3.bd; simp)) rfl rfl rfl ?_
      ((conv => whnf); (repeat (first | (refine ⟨rfl, ?_⟩; (conv => whnf)) | (refine ⟨Nat.le_of_ble_eq_true rfl, ?_⟩; (conv => whnf)) | (refine ⟨⟨of_decide_eq_true rfl, of_decide_eq_true rfl⟩, ?_⟩; (conv => whnf)) | (refine ⟨fun m h => absurd (own_inj h) (Nat.ne_of_beq_eq_false rfl), ?_⟩; (conv => whnf)))))
      exact ⟨1, by omega, by omega, .to ⟨rfl, rfl, rfl, rfl, rfl, rfl, rfl, rfl, rfl, rfl, trivial⟩ ⟨rfl, rfl, rfl, trivial⟩ rfl rfl⟩
    · ((conv => whnf); (repeat (first | (refine ⟨rfl, ?_⟩; (conv => whnf)) | (refine ⟨Nat.le_of_ble_eq_true rfl, ?_⟩; (conv => whnf)) | (refine ⟨⟨of_decide_eq_true rfl, of_decide_eq_true rfl⟩, ?_⟩; (conv => whnf)) | (refine ⟨fun _ => ?_, fun h => Bool.noConfusion h⟩; (conv => whnf)))))
      refine call_pure (dot_spec (a := ⟨0, 0, 1⟩) (b := ⟨0, -1, 0⟩) (by unfold V3.bd; simp) (by unfold V3.bd; simp)) rfl rfl rfl ?_
      ((conv => whnf); (repeat (first | (refine ⟨rfl, ?_⟩; (conv => whnf)) | (refine ⟨Nat.le_of_ble_eq_true rfl, ?_⟩; (conv => whnf)) | (refine ⟨fun _ => ?_, fun h => Bool.noConfusion h⟩; (conv => whnf)))))
      refine call_pure (cross_spec (a := ⟨0, 0, 1⟩) (b := ⟨0, -1, 0⟩) (by unfold V3.bd; simp) (by unfold V3.bd; simp)) rfl rfl rfl ?_
      ((conv => whnf); (repeat (first | (refine ⟨rfl, ?_⟩; (conv => whnf)) | (refine ⟨Nat.le_of_ble_eq_true rfl, ?_⟩; (conv => whnf)) | (refine ⟨⟨of_decide_eq_true rfl, of_decide_eq_true rfl⟩, ?_⟩; (conv => whnf)) | (refine ⟨fun m h => absurd (own_inj h) (Nat.ne_of_beq_eq_false rfl), ?_⟩; (conv => whnf)))))
      exact ⟨2, by omega, by omega, .to ⟨rfl, rfl, rfl, rfl, rfl, rfl, rfl, rfl, rfl, rfl, trivial⟩ ⟨rfl, rfl, rfl, trivial⟩ rfl rfl⟩
    · ((conv => whnf); (repeat (first | (refine ⟨rfl, ?_⟩; (conv => whnf)) | (refine ⟨Nat.le_of_ble_eq_true rfl, ?_⟩; (conv => whnf)) | (refine ⟨⟨of_decide_eq_true rfl, of_decide_eq_true rfl⟩, ?_⟩; (conv => whnf)) | (refine ⟨fun _ => ?_, fun h => Bool.noConfusion h⟩; (conv => whnf)))))
      refine call_pure (dot_spec (a := ⟨0, 0, 1⟩) (b := ⟨0, 0, -1⟩) (by unfold V3.bd; simp) (by unfold V3.bd; simp)) rfl rfl rfl ?_
      ((conv => whnf); (repeat (first | (refine ⟨rfl, ?_⟩; (conv => whnf)) | (refine ⟨fun h => Bool.noConfusion h, fun _ => ?_⟩; (conv => whnf)))))
      exact ⟨3, by omega, by omega, .to ⟨rfl, rfl, rfl, rfl, rfl, rfl, rfl, rfl, rfl, rfl, trivial⟩ ⟨rfl, rfl, rfl, trivial⟩ rfl rfl⟩
    · ((conv => whnf); (repeat (first | (refine ⟨rfl, ?_⟩; (conv => whnf)) | (refine ⟨Nat.le_of_ble_eq_true rfl, ?_⟩; (conv => whnf)) | (refine ⟨⟨of_decide_eq_true rfl, of_decide_eq_true rfl⟩, ?_⟩; (conv => whnf)) | (refine ⟨fun _ => ?_, fun h => Bool.noConfusion h⟩; (conv => whnf)))))
      refine call_pure (dot_spec (a := ⟨0, 0, 1⟩) (b := ⟨0, 0, 1⟩) (by unfold V3.bd; simp) (by unfold V3.bd; simp)) rfl rfl rfl ?_
      ((conv => whnf); (repeat (first | (refine ⟨rfl, ?_⟩; (conv => whnf)) | (refine ⟨fun h => Bool.noConfusion h, fun _ => ?_⟩; (conv => whnf)))))
      exact ⟨4, by omega, by omega, .to ⟨rfl, rfl, rfl, rfl, rfl, rfl, rfl, rfl, rfl, rfl, trivial⟩ ⟨rfl, rfl, rfl, trivial⟩ rfl rfl⟩
    · ((conv => whnf); (repeat (first | (refine ⟨rfl, ?_⟩; (conv => whnf)) | (refine ⟨Nat.le_of_ble_eq_true rfl, ?_⟩; (conv => whnf)) | (refine ⟨⟨of_decide_eq_true rfl, of_decide_eq_true rfl⟩, ?_⟩; (conv => whnf)) | (refine ⟨fun _ => ?_, fun h => Bool.noConfusion h⟩; (conv => whnf)))))
      refine call_pure (dot_spec (a := ⟨0, 0, 1⟩) (b := ⟨0, 1, 0⟩) (by unfold V3.bd; simp) (by unfold V3.bd; simp)) rfl rfl rfl ?_
      ((conv => whnf); (repeat (first | (refine ⟨rfl, ?_⟩; (conv => whnf)) | (refine ⟨Nat.le_of_ble_eq_true rfl, ?_⟩; (conv => whnf)) | (refine ⟨fun _ => ?_, fun h => Bool.noConfusion h⟩; (conv => whnf)))))
      refine call_pure (cross_spec (a := ⟨0, 0, 1⟩) (b := ⟨0, 1, 0⟩) (by unfold V3.bd; simp) (by unfold V3.bd; simp)) rfl rfl rfl ?_
      ((conv => whnf); (repeat (first | (refine ⟨rfl, ?_⟩; (conv => whnf)) | (refine ⟨Nat.le_of_ble_eq_true rfl, ?_⟩; (conv => whnf)) | (refine ⟨⟨of_decide_eq_true rfl, of_decide_eq_true rfl⟩, ?_⟩; (conv => whnf)) | (refine ⟨fun m h => absurd (own_inj h) (Nat.ne_of_beq_eq_false rfl), ?_⟩; (conv => whnf)))))
      exact ⟨5, by omega, by omega, .to ⟨rfl, rfl, rfl, rfl, rfl, rfl, rfl, rfl, rfl, rfl, trivial⟩ ⟨rfl, rfl, rfl, trivial⟩ rfl rfl⟩
    · ((conv => whnf); (repeat (first | (refine ⟨rfl, ?_⟩; (conv => whnf)) | (refine ⟨Nat.le_of_ble_eq_true rfl, ?_⟩; (conv => whnf)) | (refine ⟨⟨of_decide_eq_true rfl, of_decide_eq_true rfl⟩, ?_⟩; (conv => whnf)) | (refine ⟨fun _ => ?_, fun h => Bool.noConfusion h⟩; (conv => whnf)))))
      refine call_pure (dot_spec (a := ⟨0, 0, 1⟩) (b := ⟨1, 0, 0⟩) (by unfold V3.bd; simp) (by unfold V3.bd; simp)) rfl rfl rfl ?_
      ((conv => whnf); (repeat (first | (refine ⟨rfl, ?_⟩; (conv => whnf)) | (refine ⟨Nat.le_of_ble_eq_true rfl, ?_⟩; (conv => whnf)) | (refine ⟨fun _ => ?_, fun h => Bool.noConfusion h⟩; (conv => whnf)))))
      refine call_pure (cross_spec (a := ⟨0, 0, 1⟩) (b := ⟨1, 0, 0⟩) (by unfold V3.bd; simp) (by unfold V3.bd; simp)) rfl rfl rfl ?_
      ((conv => whnf); (repeat (first | (refine ⟨rfl, ?_⟩; (conv => whnf)) | (refine ⟨Nat.le_of_ble_eq_true rfl, ?_⟩; (conv => whnf)) | (refine ⟨⟨of_decide_eq_true rfl, of_decide_eq_true rfl⟩, ?_⟩; (conv => whnf)) | (refine ⟨fun m h => absurd (own_inj h) (Nat.ne_of_beq_eq_false rfl), ?_⟩; (conv => whnf)))))
      exact ⟨6, by omega, by omega, .to ⟨rfl, rfl, rfl, rfl, rfl, rfl, rfl, rfl, rfl, rfl, trivial⟩ ⟨rfl, rfl, rfl, trivial⟩ rfl rfl⟩
  · ((conv => whnf); (repeat (first | (refine ⟨rfl, ?_⟩; (conv => whnf)) | (refine ⟨Nat.le_of_ble_eq_true rfl, ?_⟩; (conv => whnf)) | (refine ⟨⟨of_decide_eq_true rfl, of_decide_eq_true rfl⟩, ?_⟩; (conv => whnf)) | (refine ⟨fun _ => ?_, fun h => Bool.noConfusion h⟩; (conv => whnf)))))
    refine W_loop (fun j : Nat => j ≤ 6) (fun j => mk [(0, .c false [.nil]), (2, .c false [.own 20 6]), (5, .c false [.own 98 (cntA 4 j)]), (38, .c false [.own 20 6]), (39, .c false [.i 6]), (40, .c false [.i ((4 : Nat) : Int)]), (7, .c false [.ptr 103 0]), (44, .c false [.own 20 6]), (45, .c false [.i 6]), (46, .c false [.i j])] [(20, .row 3 (vcs units6)), (98, .row 10 ((allT.take (cntA 4 j)).map Tn.cs)), (103, .box (V3.mk (0) (1) (0)).cs)] 200) (fun j => 6 - j) 0 (by simp) (.to ⟨rfl, rfl, rfl, rfl, rfl, rfl, rfl, rfl, rfl, rfl, trivial⟩ ⟨rfl, rfl, rfl, trivial⟩ rfl rfl) ?_
    intro j hj
    have hcase : j = 6 ∨ j = 0 ∨ j = 1 ∨ j = 2 ∨ j = 3 ∨ j = 4 ∨ j = 5 := by omega
    rcases hcase with rfl | rfl | rfl | rfl | rfl | rfl | rfl
    · ((conv => whnf); (repeat (first | (refine ⟨rfl, ?_⟩; (conv => whnf)) | (refine ⟨fun h => Bool.noConfusion h, fun _ => ?_⟩; (conv => whnf)))))
      exact ⟨5, by omega, by omega, .to ⟨rfl, rfl, rfl, rfl, rfl, rfl, trivial⟩ ⟨rfl, rfl, trivial⟩ rfl rfl⟩
    · ((conv => whnf); (repeat (first | (refine ⟨rfl, ?_⟩; (conv => whnf)) | (refine ⟨Nat.le_of_ble_eq_true rfl, ?_⟩; (conv => whnf)) | (refine ⟨⟨of_decide_eq_true rfl, of_decide_eq_true rfl⟩, ?_⟩; (conv => whnf)) | (refine ⟨fun _ => ?_, fun h => Bool.noConfusion h⟩; (conv => whnf)))))
      refine call_pure (dot_spec (a := ⟨0, 1, 0⟩) (b := ⟨-1, 0, 0⟩) (by unfold V3.bd; simp) (by unfold V3.bd; simp)) rfl rfl rfl ?_
      ((conv => whnf); (repeat (first | (refine ⟨rfl, ?_⟩; (conv => whnf)) | (refine ⟨Nat.le_of_ble_eq_true rfl, ?_⟩; (conv => whnf)) | (refine ⟨fun _ => ?_, fun h => Bool.noConfusion h⟩; (conv => whnf)))))
      refine call_pure (cross_spec (a := ⟨0, 1, 0⟩) (b := ⟨-1, 0, 0⟩) (by unfold V3.bd; simp) (by unfold V3.bd; simp)) rfl rfl rfl ?_
      ((conv => whnf); (repeat (first | (refine ⟨rfl, ?_⟩; (conv => whnf)) | (refine ⟨Nat.le_of_ble_eq_true rfl, ?_⟩; (conv => whnf)) | (refine ⟨⟨of_decide_eq_true rfl, of_decide_eq_true rfl⟩, ?_⟩; (conv => whnf)) | (refine ⟨fun m h => absurd (own_inj h) (Nat.ne_of_beq_eq_false rfl), ?_⟩; (conv => whnf)))))
      exact ⟨1, by omega, by omega, .to ⟨rfl, rfl, rfl, rfl, rfl, rfl, rfl, rfl, rfl, rfl, trivial⟩ ⟨rfl, rfl, rfl, trivial⟩ rfl rfl⟩
    · ((conv => whnf); (repeat (first | (refine ⟨rfl, ?_⟩; (conv => whnf)) | (refine ⟨Nat.le_of_ble_eq_true rfl, ?_⟩; (conv => whnf)) | (refine ⟨⟨of_decide_eq_true rfl, of_decide_eq_true rfl⟩, ?_⟩; (conv => whnf)) | (refine ⟨fun _ => ?_, fun h => Bool.noConfusion h⟩; (conv => whnf)))))
      refine call_pure (dot_spec (a := ⟨0, 1, 0⟩) (b := ⟨0, -1, 0⟩) (by unfold V3.bd; simp) (by unfold V3.bd; simp)) rfl rfl rfl ?_
      ((conv => whnf); (repeat (first | (refine ⟨rfl, ?_⟩; (conv => whnf)) | (refine ⟨fun h => Bool.noConfusion h, fun _ => ?_⟩; (conv => whnf)))))
      exact ⟨2, by omega, by omega, .to ⟨rfl, rfl, rfl, rfl, rfl, rfl, rfl, rfl, rfl, rfl, trivial⟩ ⟨rfl, rfl, rfl, trivial⟩ rfl rfl⟩
    · ((conv => whnf); (repeat (first | (refine ⟨rfl, ?_⟩; (conv => whnf)) | (refine ⟨Nat.le_of_ble_eq_true rfl, ?_⟩; (conv => whnf)) | (refine ⟨⟨of_decide_eq_true rfl, of_decide_eq_true rfl⟩, ?_⟩; (conv => whnf)) | (refine ⟨fun _ => ?_, fun h => Bool.noConfusion h⟩; (conv => whnf)))))
      refine call_pure (dot_spec (a := ⟨0, 1, 0⟩) (b := ⟨0, 0, -1⟩) (by unfold V3.bd; simp) (by unfold V3.bd; simp)) rfl rfl rfl ?_
      ((conv => whnf); (repeat (first | (refine ⟨rfl, ?_⟩; (conv => whnf)) | (refine ⟨Nat.le_of_ble_eq_true rfl, ?_⟩; (conv => whnf)) | (refine ⟨fun _ => ?_, fun h => Bool.noConfusion h⟩; (conv => whnf)))))
      refine call_pure (cross_spec (a := ⟨0, 1, 0⟩) (b := ⟨0, 0, -1⟩) (by unfold V3.bd; simp) (by unfold V3.bd; simp)) rfl rfl rfl ?_
      ((conv => whnf); (repeat (first | (refine ⟨rfl, ?_⟩; (conv => whnf)) | (refine ⟨Nat.le_of_ble_eq_true rfl, ?_⟩; (conv => whnf)) | (refine ⟨⟨of_decide_eq_true rfl, of_decide_eq_true rfl⟩, ?_⟩; (conv => whnf)) | (refine ⟨fun m h => absurd (own_inj h) (Nat.ne_of_beq_eq_false rfl), ?_⟩; (conv => whnf)))))
      exact ⟨3, by omega, by omega, .to ⟨rfl, rfl, rfl, rfl, rfl, rfl, rfl, rfl, rfl, rfl, trivial⟩ ⟨rfl, rfl, rfl, trivial⟩ rfl rfl⟩
    · ((conv => whnf); (repeat (first | (refine ⟨rfl, ?_⟩; (conv => whnf)) | (refine ⟨Nat.le_of_ble_eq_true rfl, ?_⟩; (conv => whnf)) | (refine ⟨⟨of_decide_eq_true rfl, of_decide_eq_true rfl⟩, ?_⟩; (conv => whnf)) | (refine ⟨fun _ => ?_, fun h => Bool.noConfusion h⟩; (conv => whnf)))))
      refine call_pure (dot_spec (a := ⟨0, 1, 0⟩) (b := ⟨0, 0, 1⟩) (by unfold V3.bd; simp) (by unfold V3.bd; simp)) rfl rfl rfl ?_
      ((conv => whnf); (repeat (first | (refine ⟨rfl, ?_⟩; (conv => whnf)) | (refine ⟨Nat.le_of_ble_eq_true rfl, ?_⟩; (conv => whnf)) | (refine ⟨fun _ => ?_, fun h => Bool.noConfusion h⟩; (conv => whnf)))))
      refine call_pure (cross_spec (a := ⟨0, 1, 0⟩) (b := ⟨0, 0, 1⟩) (by unfold V3.bd; simp) (by unfold V3.bd; simp)) rfl rfl rfl ?_
      ((conv => whnf); (repeat (first | (refine ⟨rfl, ?_⟩; (conv => whnf)) | (refine ⟨Nat.le_of_ble_eq_true rfl, ?_⟩; (conv => whnf)) | (refine ⟨⟨of_decide_eq_true rfl, of_decide_eq_true rfl⟩, ?_⟩; (conv => whnf)) | (refine ⟨fun m h => absurd (own_inj h) (Nat.ne_of_beq_eq_false rfl), ?_⟩; (conv => whnf)))))
      exact ⟨4, by omega, by omega, .to ⟨rfl, rfl, rfl, rfl, rfl, rfl, rfl, rfl, rfl, rfl, trivial⟩ ⟨rfl, rfl, rfl, trivial⟩ rfl rfl⟩
    · ((conv => whnf); (repeat (first | (refine ⟨rfl, ?_⟩; (conv => whnf)) | (refine ⟨Nat.le_of_ble_eq_true rfl, ?_⟩; (conv => whnf)) | (refine ⟨⟨of_decide_eq_true rfl, of_decide_eq_true rfl⟩, ?_⟩; (conv => whnf)) | (refine ⟨fun _ => ?_, fun h => Bool.noConfusion h⟩; (conv => whnf)))))
      refine call_pure (dot_spec (a := ⟨0, 1, 0⟩) (b := ⟨0, 1, 0⟩) (by unfold V3.bd; simp) (by unfold V3.bd; simp)) rfl rfl rfl ?_
      ((conv => whnf); (repeat (first | (refine ⟨rfl, ?_⟩; (conv => whnf)) | (refine ⟨fun h => Bool.noConfusion h, fun _ => ?_⟩; (conv => whnf)))))
      exact ⟨5, by omega, by omega, .to ⟨rfl, rfl, rfl, rfl, rfl, rfl, rfl, rfl, rfl, rfl, trivial⟩ ⟨rfl, rfl, rfl, trivial⟩ rfl rfl⟩
    · ((conv => whnf); (repeat (first | (refine ⟨rfl, ?_⟩; (conv => whnf)) | (refine ⟨Nat.le_of_ble_eq_true rfl, ?_⟩; (conv => whnf)) | (refine ⟨⟨of_decide_eq_true rfl, of_decide_eq_true rfl⟩, ?_⟩; (conv => whnf)) | (refine ⟨fun _ => ?_, fun h => Bool.noConfusion h⟩; (conv => whnf)))))
      refine call_pure (dot_spec (a := ⟨0, 1, 0⟩) (b := ⟨1, 0, 0⟩) (by unfold V3.bd; simp) (by unfold V3.bd; simp)) rfl rfl rfl ?_
      ((conv => whnf); (repeat (first | (refine ⟨rfl, ?_⟩; (conv => whnf)) | (refine ⟨Nat.le_of_ble_eq_true rfl, ?_⟩; (conv => whnf)) | (refine ⟨fun _ => ?_, fun h => Bool.noConfusion h⟩; (conv => whnf)))))
      refine call_pure (cross_spec (a := ⟨0, 1, 0⟩) (b := ⟨1, 0, 0⟩) (by unfold V3.bd; simp) (by unfold V3.bd; simp)) rfl rfl rfl ?_
      ((conv => whnf); (repeat (first | (refine ⟨rfl, ?_⟩; (conv => whnf)) | (refine ⟨Nat.le_of_ble_eq_true rfl, ?_⟩; (conv => whnf)) | (refine ⟨⟨of_decide_eq_true rfl, of_decide_eq_true rfl⟩, ?_⟩; (conv => whnf)) | (refine ⟨fun m h => absurd (own_inj h) (Nat.ne_of_beq_eq_false rfl), ?_⟩; (conv => whnf)))))
      exact ⟨6, by omega, by omega, .to ⟨rfl, rfl, rfl, rfl, rfl, rfl, rfl, rfl, rfl, rfl, trivial⟩ ⟨rfl, rfl, rfl, trivial⟩ rfl rfl⟩
  · ((conv => whnf); (repeat (first | (refine ⟨rfl, ?_⟩; (conv => whnf)) | (refine ⟨Nat.le_of_ble_eq_true rfl, ?_⟩; (conv => whnf)) | (refine ⟨⟨of_decide_eq_true rfl, of_decide_eq_true rfl⟩, ?_⟩; (conv => whnf)) | (refine ⟨fun _ => ?_, fun h => Bool.noConfusion h⟩; (conv => whnf)))))
    refine W_loop (fun j : Nat => j ≤ 6) (fun j => mk [(0, .c false [.nil]), (2, .c false [.own 20 6]), (5, .c false [.own 98 (cntA 5 j)]), (38, .c false [.own 20 6]), (39, .c false [.i 6]), (40, .c false [.i ((5 : Nat) : Int)]), (7, .c false [.ptr 103 0]), (44, .c false [.own 20 6]), (45, .c false [.i 6]), (46, .c false [.i j])] [(20, .row 3 (vcs units6)), (98, .row 10 ((allT.take (cntA 5 j)).map Tn.cs)), (103, .box (V3.mk (1) (0) (0)).cs)] 200) (fun j => 6 - j) 0 (by simp) (.to ⟨rfl, rfl, rfl, rfl, rfl, rfl, rfl, rfl, rfl, rfl, trivial⟩ ⟨rfl, rfl, rfl, trivial⟩ rfl rfl) ?_
    intro j hj
    have hcase : j = 6 ∨ j = 0 ∨ j = 1 ∨ j = 2 ∨ j = 3 ∨ j = 4 ∨ j = 5 := by omega
    rcases hcase with rfl | rfl | rfl | rfl | rfl | rfl | rfl
    · ((conv => whnf); (repeat (first | (refine ⟨rfl, ?_⟩; (conv => whnf)) | (refine ⟨fun h => Bool.noConfusion h, fun _ => ?_⟩; (conv => whnf)))))
      exact ⟨6, by omega, by omega, .to ⟨rfl, rfl, rfl, rfl, rfl, rfl, trivial⟩ ⟨rfl, rfl, trivial⟩ rfl rfl⟩
    · ((conv => whnf); (repeat (first | (refine ⟨rfl, ?_⟩; (conv => whnf)) | (refine ⟨Nat.le_of_ble_eq_true rfl, ?_⟩; (conv => whnf)) | (refine ⟨⟨of_decide_eq_true rfl, of_decide_eq_true rfl⟩, ?_⟩; (conv => whnf)) | (refine ⟨fun _ => ?_, fun h => Bool.noConfusion h⟩; (conv => whnf)))))
      refine call_pure (dot_spec (a := ⟨1, 0, 0⟩) (b := ⟨-1, 0, 0⟩) (by unfold V3.bd; simp) (by unfold V3.bd; simp)) rfl rfl rfl ?_
      ((conv => whnf); (repeat (first | (refine ⟨rfl, ?_⟩; (conv => whnf)) | (refine ⟨fun h => Bool.noConfusion h, fun _ => ?_⟩; (conv => whnf)))))
      exact ⟨1, by omega, by omega, .to ⟨rfl, rfl, rfl, rfl, rfl, rfl, rfl, rfl, rfl, rfl, trivial⟩ ⟨rfl, rfl, rfl, trivial⟩ rfl rfl⟩
    · ((conv => whnf); (repeat (first | (refine ⟨rfl, ?_⟩; (conv => whnf)) | (refine ⟨Nat.le_of_ble_eq_true rfl, ?_⟩; (conv => whnf)) | (refine ⟨⟨of_decide_eq_true rfl, of_decide_eq_true rfl⟩, ?_⟩; (conv => whnf)) | (refine ⟨fun _ => ?_, fun h => Bool.noConfusion h⟩; (conv => whnf)))))
      refine call_pure (dot_spec (a := ⟨1, 0, 0⟩) (b := ⟨0, -1, 0⟩) (by unfold V3.bd; simp) (by unfold V3.bd; simp)) rfl rfl rfl ?_
      ((conv => whnf); (repeat (first | (refine ⟨rfl, ?_⟩; (conv => whnf)) | (refine ⟨Nat.le_of_ble_eq_true rfl, ?_⟩; (conv => whnf)) | (refine ⟨fun _ => ?_, fun h => Bool.noConfusion h⟩; (conv => whnf)))))
      refine call_pure (cross_spec (a := ⟨1, 0, 0⟩) (b := ⟨0, -1, 0⟩) (by unfold V3.bd; simp) (by unfold V3.bd; simp)) rfl rfl rfl ?_
      ((conv => whnf); (repeat (first | (refine ⟨rfl, ?_⟩; (conv => whnf)) | (refine ⟨Nat.le_of_ble_eq_true rfl, ?_⟩; (conv => whnf)) | (refine ⟨⟨of_decide_eq_true rfl, of_decide_eq_true rfl⟩, ?_⟩; (conv => whnf)) | (refine ⟨fun m h => absurd (own_inj h) (Nat.ne_of_beq_eq_false rfl), ?_⟩; (conv => whnf)))))
      exact ⟨2, by omega, by omega, .to ⟨rfl, rfl, rfl, rfl, rfl, rfl, rfl, rfl, rfl, rfl, trivial⟩ ⟨rfl, rfl, rfl, trivial⟩ rfl rfl⟩
    · ((conv => whnf); (repeat (first | (refine ⟨rfl, ?_⟩; (conv => whnf)) | (refine ⟨Nat.le_of_ble_eq_true rfl, ?_⟩; (conv => whnf)) | (refine ⟨⟨of_decide_eq_true rfl, of_decide_eq_true rfl⟩, ?_⟩; (conv => whnf)) | (refine ⟨fun _ => ?_, fun h => Bool.noConfusion h⟩; (conv => whnf)))))
      refine call_pure (dot_spec (a := ⟨1, 0, 0⟩) (b := ⟨0, 0, -1⟩) (by unfold V3.bd; simp) (by unfold V3.bd; simp)) rfl rfl rfl ?_
      ((conv => whnf); (repeat (first | (refine ⟨rfl, ?_⟩; (conv => whnf)) | (refine ⟨Nat.le_of_ble_eq_true rfl, ?_⟩; (conv => whnf)) | (refine ⟨fun _ => ?_, fun h => Bool.noConfusion h⟩; (conv => whnf)))))
      refine call_pure (cross_spec (a := ⟨1, 0, 0⟩) (b := ⟨0, 0, -1⟩) (by unfold V3.bd; simp) (by unfold V3.bd; simp)) rfl rfl rfl ?_
      ((conv => whnf); (repeat (first | (refine ⟨rfl, ?_⟩; (conv => whnf)) | (refine ⟨Nat.le_of_ble_eq_true rfl, ?_⟩; (conv => whnf)) | (refine ⟨⟨of_decide_eq_true rfl, of_decide_eq_true rfl⟩, ?_⟩; (conv => whnf)) | (refine ⟨fun m h => absurd (own_inj h) (Nat.ne_of_beq_eq_false rfl), ?_⟩; (conv => whnf)))))
      exact ⟨3, by omega, by omega, .to ⟨rfl, rfl, rfl, rfl, rfl, rfl, rfl, rfl, rfl, rfl, trivial⟩ ⟨rfl, rfl, rfl, trivial⟩ rfl rfl⟩
    · ((conv => whnf); (repeat (first | (refine ⟨rfl, ?_⟩; (conv => whnf)) | (refine ⟨Nat.le_of_ble_eq_true rfl, ?_⟩; (conv => whnf)) | (refine ⟨⟨of_decide_eq_true rfl, of_decide_eq_true rfl⟩, ?_⟩; (conv => whnf)) | (refine ⟨fun _ => ?_, fun h => Bool.noConfusion h⟩; (conv => whnf)))))
      refine call_pure (dot_spec (a := ⟨1, 0, 0⟩) (b := ⟨0, 0, 1⟩) (by unfold V3.bd; simp) (by unfold V3.bd; simp)) rfl rfl rfl ?_
      ((conv => whnf); (repeat (first | (refine ⟨rfl, ?_⟩; (conv => whnf)) | (refine ⟨Nat.le_of_ble_eq_true rfl, ?_⟩; (conv => whnf)) | (refine ⟨fun _ => ?_, fun h => Bool.noConfusion h⟩; (conv => whnf)))))
      refine call_pure (cross_spec (a := ⟨1, 0, 0⟩) (b := ⟨0, 0, 1⟩) (by unfold V3.bd; simp) (by unfold V3.bd; simp)) rfl rfl rfl ?_
      ((conv => whnf); (repeat (first | (refine ⟨rfl, ?_⟩; (conv => whnf)) | (refine ⟨Nat.le_of_ble_eq_true rfl, ?_⟩; (conv => whnf)) | (refine ⟨⟨of_decide_eq_true rfl, of_decide_eq_true rfl⟩, ?_⟩; (conv => whnf)) | (refine ⟨fun m h => absurd (own_inj h) (Nat.ne_of_beq_eq_false rfl), ?_⟩; (conv => whnf)))))
      exact ⟨4, by omega, by omega, .to ⟨rfl, rfl, rfl, rfl, rfl, rfl, rfl, rfl, rfl, rfl, trivial⟩ ⟨rfl, rfl, rfl, trivial⟩ rfl rfl⟩
    · ((conv => whnf); (repeat (first | (refine ⟨rfl, ?_⟩; (conv => whnf)) | (refine ⟨Nat.le_of_ble_eq_true rfl, ?_⟩; (conv => whnf)) | (refine ⟨⟨of_decide_eq_true rfl, of_decide_eq_true rfl⟩, ?_⟩; (conv => whnf)) | (refine ⟨fun _ => ?_, fun h => Bool.noConfusion h⟩; (conv => whnf)))))
      refine call_pure (dot_spec (a := ⟨1, 0, 0⟩) (b := ⟨0, 1, 0⟩) (by unfold V3.bd; simp) (by unfold V3.bd; simp)) rfl rfl rfl ?_
      ((conv => whnf); (repeat (first | (refine ⟨rfl, ?_⟩; (conv => whnf)) | (refine ⟨Nat.le_of_ble_eq_true rfl, ?_⟩; (conv => whnf)) | (refine ⟨fun _ => ?_, fun h => Bool.noConfusion h⟩; (conv => whnf)))))
      refine call_pure (cross_spec (a := ⟨1, 0, 0⟩) (b := ⟨0, 1, 0⟩) (by unfold V3.bd; simp) (by unfold V3.bd; simp)) rfl rfl rfl ?_
      ((conv => whnf); (repeat (first | (refine ⟨rfl, ?_⟩; (conv => whnf)) | (refine ⟨Nat.le_of_ble_eq_true rfl, ?_⟩; (conv => whnf)) | (refine ⟨⟨of_decide_eq_true rfl, of_decide_eq_true rfl⟩, ?_⟩; (conv => whnf)) | (refine ⟨fun m h => absurd (own_inj h) (Nat.ne_of_beq_eq_false rfl), ?_⟩; (conv => whnf)))))
      exact ⟨5, by omega, by omega, .to ⟨rfl, rfl, rfl, rfl, rfl, rfl, rfl, rfl, rfl, rfl, trivial⟩ ⟨rfl, rfl, rfl, trivial⟩ rfl rfl⟩
    · ((conv => whnf); (repeat (first | (refine ⟨rfl, ?_⟩; (conv => whnf)) | (refine ⟨Nat.le_of_ble_eq_true rfl, ?_⟩; (conv => whnf)) | (refine ⟨⟨of_decide_eq_true rfl, of_decide_eq_true rfl⟩, ?_⟩; (conv => whnf)) | (refine ⟨fun _ => ?_, fun h => Bool.noConfusion h⟩; (conv => whnf)))))
      refine call_pure (dot_spec (a := ⟨1, 0, 0⟩) (b := ⟨1, 0, 0⟩) (by unfold V3.bd; simp) (by unfold V3.bd; simp)) rfl rfl rfl ?_
      ((conv => whnf); (repeat (first | (refine ⟨rfl, ?_⟩; (conv => whnf)) | (refine ⟨fun h => Bool.noConfusion h, fun _ => ?_⟩; (conv => whnf)))))
      exact ⟨6, by omega, by omega, .to ⟨rfl, rfl, rfl, rfl, rfl, rfl, rfl, rfl, rfl, rfl, trivial⟩ ⟨rfl, rfl, rfl, trivial⟩ rfl rfl⟩
end Go.Proofs.YtlbafapmhjfobaaGreatDoor
