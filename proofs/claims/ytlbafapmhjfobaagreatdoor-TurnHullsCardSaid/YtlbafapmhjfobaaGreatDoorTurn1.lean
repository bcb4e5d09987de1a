/-
  Contracts: what the functions on matrices of the package turn compute, for arguments within the bounds that each contract names.
-/
import Derived.Test.YtlbafapmhjfobaaGreatDoorPlane
import Derived.Test.YtlbafapmhjfobaaGreatDoorCode1
set_option linter.unusedVariables false
set_option linter.unusedSimpArgs false
namespace Go.Proofs.YtlbafapmhjfobaaGreatDoor
set_option maxRecDepth 100000
attribute [local irreducible] LoopW RngW retPure retFresh retBox retTurn
variable {gl : Nat → Option (List AV)}

structure M3 where
  a : Int
  b : Int
  c : Int
  d : Int
  e : Int
  f : Int
  g : Int
  h : Int
  i : Int
  deriving DecidableEq
def M3.li (m : M3) : List Int := [m.a, m.b, m.c, m.d, m.e, m.f, m.g, m.h, m.i]
def M3.cs (m : M3) : List AV := [.i m.a, .i m.b, .i m.c, .i m.d, .i m.e, .i m.f, .i m.g, .i m.h, .i m.i]

theorem withinI_snoc {m : Int} {xs : List Int} {k : Nat} (hk : k < xs.length) (h : withinI m (xs.take k) = true) (h1 : -m ≤ xs[k] ∧ xs[k] ≤ m) : withinI m (xs.take (k + 1)) = true := by
  rw [List.take_add_one, List.getElem?_eq_getElem hk]
  simp only [withinI, List.all_append] at h ⊢
  rw [h]
  simpa using h1
theorem withinI_bad {m : Int} {xs : List Int} {k : Nat} (hk : k < xs.length) (h1 : ¬ (-m ≤ xs[k] ∧ xs[k] ≤ m)) : withinI m xs = false := by
  rw [withinI, List.all_eq_false]
  exact ⟨xs[k], by simp, by simpa using h1⟩
theorem mwithin_spec (m : M3) {k : Int} (hk : 0 ≤ k ∧ k ≤ 4611686018427387904) : Spec Tryz.prog gl 47 none [(true, m.cs), (false, [.i k])] (.c false [.b (withinI k m.li)]) none := by
  refine spec_plain A47_comp Tryz.func47 Tryz.call47 fol Tryz.ntmps47 Tryz.results47 (argsB_spec rfl) (Nat.le_of_ble_eq_true rfl) (idf_c rfl) ?_
  (conv => whnf)
  refine W_loop (fun j : Nat => j ≤ 9 ∧ withinI k (m.li.take j) = true)
    (fun j => mk [(1, .c false [.i k]), (2, .c false [.ptr 1 0]), (7, .c false [.i j])] [(1, .box m.cs)] 100)
    (fun j => 9 - j) 0 ⟨by omega, rfl⟩ (.to ⟨rfl, rfl, rfl, trivial⟩ ⟨rfl, trivial⟩ rfl rfl) ?_
  rintro j ⟨hj, hall⟩
  have hcase : j = 9 ∨ j = 0 ∨ j = 1 ∨ j = 2 ∨ j = 3 ∨ j = 4 ∨ j = 5 ∨ j = 6 ∨ j = 7 ∨ j = 8 := by omega
  rcases hcase with rfl | hcase
  · ((conv => whnf); (repeat (first | (refine ⟨rfl, ?_⟩; (conv => whnf)) | (refine ⟨fun h => Bool.noConfusion h, fun _ => ?_⟩; (conv => whnf)))))
    refine retPure_ret rfl ?_
    exact eqb hall.symm
  rcases hcase with rfl | rfl | rfl | rfl | rfl | rfl | rfl | rfl | rfl
  · ((conv => whnf); (repeat (first | (refine ⟨rfl, ?_⟩; (conv => whnf)) | (refine ⟨Nat.le_of_ble_eq_true rfl, ?_⟩; (conv => whnf)) | (refine ⟨⟨of_decide_eq_true rfl, of_decide_eq_true rfl⟩, ?_⟩; (conv => whnf)) | (refine ⟨of_decide_eq_true rfl, ?_⟩; (conv => whnf)) | (refine ⟨fun _ => ?_, fun h => Bool.noConfusion h⟩; (conv => whnf)))))
    rw [wr (n := 0 - k) (by omega)]
    refine ⟨fun h1 => ?_, fun h1 => ?_⟩
    · rw [h1]; ((conv => whnf); (repeat (first | (refine ⟨rfl, ?_⟩; (conv => whnf)) | (refine ⟨fun _ => ?_, fun h => Bool.noConfusion h⟩; (conv => whnf)) | (refine ⟨fun h => Bool.noConfusion h, fun _ => ?_⟩; (conv => whnf)))))
      refine ⟨fun h2 => ?_, fun h2 => ?_⟩
      · (conv => whnf)
        refine retPure_ret rfl ?_
        exact eqb (withinI_bad (xs := m.li) (k := 0) (Nat.le_of_ble_eq_true rfl) (fun h => by simp at h2; exact absurd (show m.a ≤ k from h.2) (by omega))).symm
      · ((conv => whnf); (repeat (refine ⟨rfl, ?_⟩; (conv => whnf))))
        refine ⟨1, ⟨by omega, withinI_snoc (xs := m.li) (k := 0) (Nat.le_of_ble_eq_true rfl) hall (show -k ≤ m.a ∧ m.a ≤ k from by simp at h1 h2; omega)⟩, by omega, .to ⟨rfl, rfl, rfl, trivial⟩ ⟨rfl, trivial⟩ rfl rfl⟩
    · rw [h1]; ((conv => whnf); (repeat (first | (refine ⟨fun _ => ?_, fun h => Bool.noConfusion h⟩; (conv => whnf)) | (refine ⟨fun h => Bool.noConfusion h, fun _ => ?_⟩; (conv => whnf)))))
      refine retPure_ret rfl ?_
      exact eqb (withinI_bad (xs := m.li) (k := 0) (Nat.le_of_ble_eq_true rfl) (fun h => by simp at h1; exact absurd (show -k ≤ m.a from h.1) (by omega))).symm
  · ((conv => whnf); (repeat (first | (refine ⟨rfl, ?_⟩; (conv => whnf)) | (refine ⟨Nat.le_of_ble_eq_true rfl, ?_⟩; (conv => whnf)) | (refine ⟨⟨of_decide_eq_true rfl, of_decide_eq_true rfl⟩, ?_⟩; (conv => whnf)) | (refine ⟨of_decide_eq_true rfl, ?_⟩; (conv => whnf)) | (refine ⟨fun _ => ?_, fun h => Bool.noConfusion h⟩; (conv => whnf)))))
    rw [wr (n := 0 - k) (by omega)]
    refine ⟨fun h1 => ?_, fun h1 => ?_⟩
    · rw [h1]; ((conv => whnf); (repeat (first | (refine ⟨rfl, ?_⟩; (conv => whnf)) | (refine ⟨fun _ => ?_, fun h => Bool.noConfusion h⟩; (conv => whnf)) | (refine ⟨fun h => Bool.noConfusion h, fun _ => ?_⟩; (conv => whnf)))))
      refine ⟨fun h2 => ?_, fun h2 => ?_⟩
      · (conv => whnf)
        refine retPure_ret rfl ?_
        exact eqb (withinI_bad (xs := m.li) (k := 1) (Nat.le_of_ble_eq_true rfl) (fun h => by simp at h2; exact absurd (show m.b ≤ k from h.2) (by omega))).symm
      · ((conv => whnf); (repeat (refine ⟨rfl, ?_⟩; (conv => whnf))))
        refine ⟨2, ⟨by omega, withinI_snoc (xs := m.li) (k := 1) (Nat.le_of_ble_eq_true rfl) hall (show -k ≤ m.b ∧ m.b ≤ k from by simp at h1 h2; omega)⟩, by omega, .to ⟨rfl, rfl, rfl, trivial⟩ ⟨rfl, trivial⟩ rfl rfl⟩
    · rw [h1]; ((conv => whnf); (repeat (first | (refine ⟨fun _ => ?_, fun h => Bool.noConfusion h⟩; (conv => whnf)) | (refine ⟨fun h => Bool.noConfusion h, fun _ => ?_⟩; (conv => whnf)))))
      refine retPure_ret rfl ?_
      exact eqb (withinI_bad (xs := m.li) (k := 1) (Nat.le_of_ble_eq_true rfl) (fun h => by simp at h1; exact absurd (show -k ≤ m.b from h.1) (by omega))).symm
  · ((conv => whnf); (repeat (first | (refine ⟨rfl, ?_⟩; (conv => whnf)) | (refine ⟨Nat.le_of_ble_eq_true rfl, ?_⟩; (conv => whnf)) | (refine ⟨⟨of_decide_eq_true rfl, of_decide_eq_true rfl⟩, ?_⟩; (conv => whnf)) | (refine ⟨of_decide_eq_true rfl, ?_⟩; (conv => whnf)) | (refine ⟨fun _ => ?_, fun h => Bool.noConfusion h⟩; (conv => whnf)))))
    rw [wr (n := 0 - k) (by omega)]
    refine ⟨fun h1 => ?_, fun h1 => ?_⟩
    · rw [h1]; ((conv => whnf); (repeat (first | (refine ⟨rfl, ?_⟩; (conv => whnf)) | (refine ⟨fun _ => ?_, fun h => Bool.noConfusion h⟩; (conv => whnf)) | (refine ⟨fun h => Bool.noConfusion h, fun _ => ?_⟩; (conv => whnf)))))
      refine ⟨fun h2 => ?_, fun h2 => ?_⟩
      · (conv => whnf)
        refine retPure_ret rfl ?_
        exact eqb (withinI_bad (xs := m.li) (k := 2) (Nat.le_of_ble_eq_true rfl) (fun h => by simp at h2; exact absurd (show m.c ≤ k from h.2) (by omega))).symm
      · ((conv => whnf); (repeat (refine ⟨rfl, ?_⟩; (conv => whnf))))
        refine ⟨3, ⟨by omega, withinI_snoc (xs := m.li) (k := 2) (Nat.le_of_ble_eq_true rfl) hall (show -k ≤ m.c ∧ m.c ≤ k from by simp at h1 h2; omega)⟩, by omega, .to ⟨rfl, rfl, rfl, trivial⟩ ⟨rfl, trivial⟩ rfl rfl⟩
    · rw [h1]; ((conv => whnf); (repeat (first | (refine ⟨fun _ => ?_, fun h => Bool.noConfusion h⟩; (conv => whnf)) | (refine ⟨fun h => Bool.noConfusion h, fun _ => ?_⟩; (conv => whnf)))))
      refine retPure_ret rfl ?_
      exact eqb (withinI_bad (xs := m.li) (k := 2) (Nat.le_of_ble_eq_true rfl) (fun h => by simp at h1; exact absurd (show -k ≤ m.c from h.1) (by omega))).symm
  · ((conv => whnf); (repeat (first | (refine ⟨rfl, ?_⟩; (conv => whnf)) | (refine ⟨Nat.le_of_ble_eq_true rfl, ?_⟩; (conv => whnf)) | (refine ⟨⟨of_decide_eq_true rfl, of_decide_eq_true rfl⟩, ?_⟩; (conv => whnf)) | (refine ⟨of_decide_eq_true rfl, ?_⟩; (conv => whnf)) | (refine ⟨fun _ => ?_, fun h => Bool.noConfusion h⟩; (conv => whnf)))))
    rw [wr (n := 0 - k) (by omega)]
    refine ⟨fun h1 => ?_, fun h1 => ?_⟩
    · rw [h1]; ((conv => whnf); (repeat (first | (refine ⟨rfl, ?_⟩; (conv => whnf)) | (refine ⟨fun _ => ?_, fun h => Bool.noConfusion h⟩; (conv => whnf)) | (refine ⟨fun h => Bool.noConfusion h, fun _ => ?_⟩; (conv => whnf)))))
      refine ⟨fun h2 => ?_, fun h2 => ?_⟩
      · (conv => whnf)
        refine retPure_ret rfl ?_
        exact eqb (withinI_bad (xs := m.li) (k := 3) (Nat.le_of_ble_eq_true rfl) (fun h => by simp at h2; exact absurd (show m.d ≤ k from h.2) (by omega))).symm
      · ((conv => whnf); (repeat (refine ⟨rfl, ?_⟩; (conv => whnf))))
        refine ⟨4, ⟨by omega, withinI_snoc (xs := m.li) (k := 3) (Nat.le_of_ble_eq_true rfl) hall (show -k ≤ m.d ∧ m.d ≤ k from by simp at h1 h2; omega)⟩, by omega, .to ⟨rfl, rfl, rfl, trivial⟩ ⟨rfl, trivial⟩ rfl rfl⟩
    · rw [h1]; ((conv => whnf); (repeat (first | (refine ⟨fun _ => ?_, fun h => Bool.noConfusion h⟩; (conv => whnf)) | (refine ⟨fun h => Bool.noConfusion h, fun _ => ?_⟩; (conv => whnf)))))
      refine retPure_ret rfl ?_
      exact eqb (withinI_bad (xs := m.li) (k := 3) (Nat.le_of_ble_eq_true rfl) (fun h => by simp at h1; exact absurd (show -k ≤ m.d from h.1) (by omega))).symm
  · ((conv => whnf); (repeat (first | (refine ⟨rfl, ?_⟩; (conv => whnf)) | (refine ⟨Nat.le_of_ble_eq_true rfl, ?_⟩; (conv => whnf)) | (refine ⟨⟨of_decide_eq_true rfl, of_decide_eq_true rfl⟩, ?_⟩; (conv => whnf)) | (refine ⟨of_decide_eq_true rfl, ?_⟩; (conv => whnf)) | (refine ⟨fun _ => ?_, fun h => Bool.noConfusion h⟩; (conv => whnf)))))
    rw [wr (n := 0 - k) (by omega)]
    refine ⟨fun h1 => ?_, fun h1 => ?_⟩
    · rw [h1]; ((conv => whnf); (repeat (first | (refine ⟨rfl, ?_⟩; (conv => whnf)) | (refine ⟨fun _ => ?_, fun h => Bool.noConfusion h⟩; (conv => whnf)) | (refine ⟨fun h => Bool.noConfusion h, fun _ => ?_⟩; (conv => whnf)))))
      refine ⟨fun h2 => ?_, fun h2 => ?_⟩
      · (conv => whnf)
        refine retPure_ret rfl ?_
        exact eqb (withinI_bad (xs := m.li) (k := 4) (Nat.le_of_ble_eq_true rfl) (fun h => by simp at h2; exact absurd (show m.e ≤ k from h.2) (by omega))).symm
      · ((conv => whnf); (repeat (refine ⟨rfl, ?_⟩; (conv => whnf))))
        refine ⟨5, ⟨by omega, withinI_snoc (xs := m.li) (k := 4) (Nat.le_of_ble_eq_true rfl) hall (show -k ≤ m.e ∧ m.e ≤ k from by simp at h1 h2; omega)⟩, by omega, .to ⟨rfl, rfl, rfl, trivial⟩ ⟨rfl, trivial⟩ rfl rfl⟩
    · rw [h1]; ((conv => whnf); (repeat (first | (refine ⟨fun _ => ?_, fun h => Bool.noConfusion h⟩; (conv => whnf)) | (refine ⟨fun h => Bool.noConfusion h, fun _ => ?_⟩; (conv => whnf)))))
      refine retPure_ret rfl ?_
      exact eqb (withinI_bad (xs := m.li) (k := 4) (Nat.le_of_ble_eq_true rfl) (fun h => by simp at h1; exact absurd (show -k ≤ m.e from h.1) (by omega))).symm
  · ((conv => whnf); (repeat (first | (refine ⟨rfl, ?_⟩; (conv => whnf)) | (refine ⟨Nat.le_of_ble_eq_true rfl, ?_⟩; (conv => whnf)) | (refine ⟨⟨of_decide_eq_true rfl, of_decide_eq_true rfl⟩, ?_⟩; (conv => whnf)) | (refine ⟨of_decide_eq_true rfl, ?_⟩; (conv => whnf)) | (refine ⟨fun _ => ?_, fun h => Bool.noConfusion h⟩; (conv => whnf)))))
    rw [wr (n := 0 - k) (by omega)]
    refine ⟨fun h1 => ?_, fun h1 => ?_⟩
    · rw [h1]; ((conv => whnf); (repeat (first | (refine ⟨rfl, ?_⟩; (conv => whnf)) | (refine ⟨fun _ => ?_, fun h => Bool.noConfusion h⟩; (conv => whnf)) | (refine ⟨fun h => Bool.noConfusion h, fun _ => ?_⟩; (conv => whnf)))))
      refine ⟨fun h2 => ?_, fun h2 => ?_⟩
      · (conv => whnf)
        refine retPure_ret rfl ?_
        exact eqb (withinI_bad (xs := m.li) (k := 5) (Nat.le_of_ble_eq_true rfl) (fun h => by simp at h2; exact absurd (show m.f ≤ k from h.2) (by omega))).symm
      · ((conv => whnf); (repeat (refine ⟨rfl, ?_⟩; (conv => whnf))))
        refine ⟨6, ⟨by omega, withinI_snoc (xs := m.li) (k := 5) (Nat.le_of_ble_eq_true rfl) hall (show -k ≤ m.f ∧ m.f ≤ k from by simp at h1 h2; omega)⟩, by omega, .to ⟨rfl, rfl, rfl, trivial⟩ ⟨rfl, trivial⟩ rfl rfl⟩
    · rw [h1]; ((conv => whnf); (repeat (first | (refine ⟨fun _ => ?_, fun h => Bool.noConfusion h⟩; (conv => whnf)) | (refine ⟨fun h => Bool.noConfusion h, fun _ => ?_⟩; (conv => whnf)))))
      refine retPure_ret rfl ?_
      exact eqb (withinI_bad (xs := m.li) (k := 5) (Nat.le_of_ble_eq_true rfl) (fun h => by simp at h1; exact absurd (show -k ≤ m.f from h.1) (by omega))).symm
  · ((conv => whnf); (repeat (first | (refine ⟨rfl, ?_⟩; (conv => whnf)) | (refine ⟨Nat.le_of_ble_eq_true rfl, ?_⟩; (conv => whnf)) | (refine ⟨⟨of_decide_eq_true rfl, of_decide_eq_true rfl⟩, ?_⟩; (conv => whnf)) | (refine ⟨of_decide_eq_true rfl, ?_⟩; (conv => whnf)) | (refine ⟨fun _ => ?_, fun h => Bool.noConfusion h⟩; (conv => whnf)))))
    rw [wr (n := 0 - k) (by omega)]
    refine ⟨fun h1 => ?_, fun h1 => ?_⟩
    · rw [h1]; ((conv => whnf); (repeat (first | (refine ⟨rfl, ?_⟩; (conv => whnf)) | (refine ⟨fun _ => ?_, fun h => Bool.noConfusion h⟩; (conv => whnf)) | (refine ⟨fun h => Bool.noConfusion h, fun _ => ?_⟩; (conv => whnf)))))
      refine ⟨fun h2 => ?_, fun h2 => ?_⟩
      · (conv => whnf)
        refine retPure_ret rfl ?_
        exact eqb (withinI_bad (xs := m.li) (k := 6) (Nat.le_of_ble_eq_true rfl) (fun h => by simp at h2; exact absurd (show m.g ≤ k from h.2) (by omega))).symm
      · ((conv => whnf); (repeat (refine ⟨rfl, ?_⟩; (conv => whnf))))
        refine ⟨7, ⟨by omega, withinI_snoc (xs := m.li) (k := 6) (Nat.le_of_ble_eq_true rfl) hall (show -k ≤ m.g ∧ m.g ≤ k from by simp at h1 h2; omega)⟩, by omega, .to ⟨rfl, rfl, rfl, trivial⟩ ⟨rfl, trivial⟩ rfl rfl⟩
    · rw [h1]; ((conv => whnf); (repeat (first | (refine ⟨fun _ => ?_, fun h => Bool.noConfusion h⟩; (conv => whnf)) | (refine ⟨fun h => Bool.noConfusion h, fun _ => ?_⟩; (conv => whnf)))))
      refine retPure_ret rfl ?_
      exact eqb (withinI_bad (xs := m.li) (k := 6) (Nat.le_of_ble_eq_true rfl) (fun h => by simp at h1; exact absurd (show -k ≤ m.g from h.1) (by omega))).symm
  · ((conv => whnf); (repeat (first | (refine ⟨rfl, ?_⟩; (conv => whnf)) | (refine ⟨Nat.le_of_ble_eq_true rfl, ?_⟩; (conv => whnf)) | (refine ⟨⟨of_decide_eq_true rfl, of_decide_eq_true rfl⟩, ?_⟩; (conv => whnf)) | (refine ⟨of_decide_eq_true rfl, ?_⟩; (conv => whnf)) | (refine ⟨fun _ => ?_, fun h => Bool.noConfusion h⟩; (conv => whnf)))))
    rw [wr (n := 0 - k) (by omega)]
    refine ⟨fun h1 => ?_, fun h1 => ?_⟩
    · rw [h1]; ((conv => whnf); (repeat (first | (refine ⟨rfl, ?_⟩; (conv => whnf)) | (refine ⟨fun _ => ?_, fun h => Bool.noConfusion h⟩; (conv => whnf)) | (refine ⟨fun h => Bool.noConfusion h, fun _ => ?_⟩; (conv => whnf)))))
      refine ⟨fun h2 => ?_, fun h2 => ?_⟩
      · (conv => whnf)
        refine retPure_ret rfl ?_
        exact eqb (withinI_bad (xs := m.li) (k := 7) (Nat.le_of_ble_eq_true rfl) (fun h => by simp at h2; exact absurd (show m.h ≤ k from h.2) (by omega))).symm
      · ((conv => whnf); (repeat (refine ⟨rfl, ?_⟩; (conv => whnf))))
        refine ⟨8, ⟨by omega, withinI_snoc (xs := m.li) (k := 7) (Nat.le_of_ble_eq_true rfl) hall (show -k ≤ m.h ∧ m.h ≤ k from by simp at h1 h2; omega)⟩, by omega, .to ⟨rfl, rfl, rfl, trivial⟩ ⟨rfl, trivial⟩ rfl rfl⟩
    · rw [h1]; ((conv => whnf); (repeat (first | (refine ⟨fun _ => ?_, fun h => Bool.noConfusion h⟩; (conv => whnf)) | (refine ⟨fun h => Bool.noConfusion h, fun _ => ?_⟩; (conv => whnf)))))
      refine retPure_ret rfl ?_
      exact eqb (withinI_bad (xs := m.li) (k := 7) (Nat.le_of_ble_eq_true rfl) (fun h => by simp at h1; exact absurd (show -k ≤ m.h from h.1) (by omega))).symm
  · ((conv => whnf); (repeat (first | (refine ⟨rfl, ?_⟩; (conv => whnf)) | (refine ⟨Nat.le_of_ble_eq_true rfl, ?_⟩; (conv => whnf)) | (refine ⟨⟨of_decide_eq_true rfl, of_decide_eq_true rfl⟩, ?_⟩; (conv => whnf)) | (refine ⟨of_decide_eq_true rfl, ?_⟩; (conv => whnf)) | (refine ⟨fun _ => ?_, fun h => Bool.noConfusion h⟩; (conv => whnf)))))
    rw [wr (n := 0 - k) (by omega)]
    refine ⟨fun h1 => ?_, fun h1 => ?_⟩
    · rw [h1]; ((conv => whnf); (repeat (first | (refine ⟨rfl, ?_⟩; (conv => whnf)) | (refine ⟨fun _ => ?_, fun h => Bool.noConfusion h⟩; (conv => whnf)) | (refine ⟨fun h => Bool.noConfusion h, fun _ => ?_⟩; (conv => whnf)))))
      refine ⟨fun h2 => ?_, fun h2 => ?_⟩
      · (conv => whnf)
        refine retPure_ret rfl ?_
        exact eqb (withinI_bad (xs := m.li) (k := 8) (Nat.le_of_ble_eq_true rfl) (fun h => by simp at h2; exact absurd (show m.i ≤ k from h.2) (by omega))).symm
      · ((conv => whnf); (repeat (refine ⟨rfl, ?_⟩; (conv => whnf))))
        refine ⟨9, ⟨by omega, withinI_snoc (xs := m.li) (k := 8) (Nat.le_of_ble_eq_true rfl) hall (show -k ≤ m.i ∧ m.i ≤ k from by simp at h1 h2; omega)⟩, by omega, .to ⟨rfl, rfl, rfl, trivial⟩ ⟨rfl, trivial⟩ rfl rfl⟩
    · rw [h1]; ((conv => whnf); (repeat (first | (refine ⟨fun _ => ?_, fun h => Bool.noConfusion h⟩; (conv => whnf)) | (refine ⟨fun h => Bool.noConfusion h, fun _ => ?_⟩; (conv => whnf)))))
      refine retPure_ret rfl ?_
      exact eqb (withinI_bad (xs := m.li) (k := 8) (Nat.le_of_ble_eq_true rfl) (fun h => by simp at h1; exact absurd (show -k ≤ m.i from h.1) (by omega))).symm
end Go.Proofs.YtlbafapmhjfobaaGreatDoor
namespace Go.Proofs.YtlbafapmhjfobaaGreatDoor
set_option maxRecDepth 100000
attribute [local irreducible] LoopW RngW retPure retFresh retBox retTurn
variable {gl : Nat → Option (List AV)}
def M3.bd (k : Int) (m : M3) : Prop := (-k ≤ m.a ∧ m.a ≤ k) ∧ (-k ≤ m.b ∧ m.b ≤ k) ∧ (-k ≤ m.c ∧ m.c ≤ k) ∧ (-k ≤ m.d ∧ m.d ≤ k) ∧ (-k ≤ m.e ∧ m.e ≤ k) ∧ (-k ≤ m.f ∧ m.f ≤ k) ∧ (-k ≤ m.g ∧ m.g ≤ k) ∧ (-k ≤ m.h ∧ m.h ≤ k) ∧ (-k ≤ m.i ∧ m.i ≤ k)
def M3.r0 (m : M3) : V3 := ⟨m.a, m.b, m.c⟩
def M3.r1 (m : M3) : V3 := ⟨m.d, m.e, m.f⟩
def M3.r2 (m : M3) : V3 := ⟨m.g, m.h, m.i⟩
def M3.of (m : M3) (v : V3) : V3 := ⟨m.r0.dot v, m.r1.dot v, m.r2.dot v⟩
theorem dot_wr {a b c x y z k l : Int} (ha : -k ≤ a ∧ a ≤ k) (hb : -k ≤ b ∧ b ≤ k) (hc : -k ≤ c ∧ c ≤ k) (hx : -l ≤ x ∧ x ≤ l) (hy : -l ≤ y ∧ y ≤ l) (hz : -l ≤ z ∧ z ≤ l) (h : k * l ≤ 1152921504606846976) :
    IntKind.i64.wrap (IntKind.i64.wrap (IntKind.i64.wrap (a * x) + IntKind.i64.wrap (b * y)) + IntKind.i64.wrap (c * z)) = a * x + b * y + c * z := by
  have h1 := mul_bd ha hx
  have h2 := mul_bd hb hy
  have h3 := mul_bd hc hz
  rw [wr (n := a * x) (by omega), wr (n := b * y) (by omega), wr (n := c * z) (by omega), wr (n := a * x + b * y) (by omega)]
  exact wr (by omega)
theorem of_spec {m : M3} {v : V3} (hm : m.bd 1073741824) (hv : v.bd 1073741824) : Spec Tryz.prog gl 32 none [(true, m.cs), (true, v.cs)] (.c true (m.of v).cs) none := by
  refine spec_plain A32_comp Tryz.func32 Tryz.call32 fol Tryz.ntmps32 Tryz.results32 (argsB_spec rfl) (Nat.le_of_ble_eq_true rfl) (idf_c rfl) ?_
  (conv => whnf)
  refine W_round ?_
  ((conv => whnf); (repeat (first | (refine ⟨(by kernel_rfl : chk _ _ = true), ?_⟩; (conv => whnf)) | (refine ⟨rfl, ?_⟩; (conv => whnf)) | (refine ⟨Nat.le_of_ble_eq_true rfl, ?_⟩; (conv => whnf)) | (refine ⟨⟨of_decide_eq_true rfl, of_decide_eq_true rfl⟩, ?_⟩; (conv => whnf)) | (refine ⟨fun _ => ?_, fun h => Bool.noConfusion h⟩; (conv => whnf)))))
  refine W_round ?_
  ((conv => whnf); (repeat (first | (refine ⟨(by kernel_rfl : chk _ _ = true), ?_⟩; (conv => whnf)) | (refine ⟨rfl, ?_⟩; (conv => whnf)) | (refine ⟨Nat.le_of_ble_eq_true rfl, ?_⟩; (conv => whnf)) | (refine ⟨⟨of_decide_eq_true rfl, of_decide_eq_true rfl⟩, ?_⟩; (conv => whnf)) | (refine ⟨fun _ => ?_, fun h => Bool.noConfusion h⟩; (conv => whnf)))))
  refine W_round ?_
  ((conv => whnf); (repeat (first | (refine ⟨(by kernel_rfl : chk _ _ = true), ?_⟩; (conv => whnf)) | (refine ⟨rfl, ?_⟩; (conv => whnf)) | (refine ⟨Nat.le_of_ble_eq_true rfl, ?_⟩; (conv => whnf)) | (refine ⟨⟨of_decide_eq_true rfl, of_decide_eq_true rfl⟩, ?_⟩; (conv => whnf)) | (refine ⟨fun _ => ?_, fun h => Bool.noConfusion h⟩; (conv => whnf)))))
  refine W_round ?_
  ((conv => whnf); (repeat (first | (refine ⟨rfl, ?_⟩; (conv => whnf)) | (refine ⟨Nat.le_of_ble_eq_true rfl, ?_⟩; (conv => whnf)) | (refine ⟨⟨of_decide_eq_true rfl, of_decide_eq_true rfl⟩, ?_⟩; (conv => whnf)) | (refine ⟨fun h => Bool.noConfusion h, fun _ => ?_⟩; (conv => whnf)))))
  refine retPure_ret rfl ?_
  obtain ⟨h1, h2, h3, h4, h5, h6, h7, h8, h9⟩ := hm
  obtain ⟨g1, g2, g3⟩ := hv
  exact eq3 (dot_wr h1 h2 h3 g1 g2 g3 (by decide)) (dot_wr h4 h5 h6 g1 g2 g3 (by decide)) (dot_wr h7 h8 h9 g1 g2 g3 (by decide))
def M3.tr (m : M3) : M3 := ⟨m.a, m.d, m.g, m.b, m.e, m.h, m.c, m.f, m.i⟩
theorem tr_spec (m : M3) : Spec Tryz.prog gl 50 none [(true, m.cs)] (.c true m.tr.cs) none := by
  refine spec_plain A50_comp Tryz.func50 Tryz.call50 fol Tryz.ntmps50 Tryz.results50 (argsB_spec rfl) (Nat.le_of_ble_eq_true rfl) (idf_c rfl) ?_
  (conv => whnf)
  refine W_round ?_
  ((conv => whnf); (repeat (first | (refine ⟨(by kernel_rfl : chk _ _ = true), ?_⟩; (conv => whnf)) | (refine ⟨rfl, ?_⟩; (conv => whnf)) | (refine ⟨Nat.le_of_ble_eq_true rfl, ?_⟩; (conv => whnf)) | (refine ⟨⟨of_decide_eq_true rfl, of_decide_eq_true rfl⟩, ?_⟩; (conv => whnf)) | (refine ⟨of_decide_eq_true rfl, ?_⟩; (conv => whnf)) | (refine ⟨fun _ => ?_, fun h => Bool.noConfusion h⟩; (conv => whnf)))))
  refine W_round ?_
  ((conv => whnf); (repeat (first | (refine ⟨(by kernel_rfl : chk _ _ = true), ?_⟩; (conv => whnf)) | (refine ⟨rfl, ?_⟩; (conv => whnf)) | (refine ⟨Nat.le_of_ble_eq_true rfl, ?_⟩; (conv => whnf)) | (refine ⟨⟨of_decide_eq_true rfl, of_decide_eq_true rfl⟩, ?_⟩; (conv => whnf)) | (refine ⟨of_decide_eq_true rfl, ?_⟩; (conv => whnf)) | (refine ⟨fun _ => ?_, fun h => Bool.noConfusion h⟩; (conv => whnf)))))
  refine W_round ?_
  ((conv => whnf); (repeat (first | (refine ⟨(by kernel_rfl : chk _ _ = true), ?_⟩; (conv => whnf)) | (refine ⟨rfl, ?_⟩; (conv => whnf)) | (refine ⟨Nat.le_of_ble_eq_true rfl, ?_⟩; (conv => whnf)) | (refine ⟨⟨of_decide_eq_true rfl, of_decide_eq_true rfl⟩, ?_⟩; (conv => whnf)) | (refine ⟨of_decide_eq_true rfl, ?_⟩; (conv => whnf)) | (refine ⟨fun _ => ?_, fun h => Bool.noConfusion h⟩; (conv => whnf)))))
  refine W_round ?_
  ((conv => whnf); (repeat (first | (refine ⟨(by kernel_rfl : chk _ _ = true), ?_⟩; (conv => whnf)) | (refine ⟨rfl, ?_⟩; (conv => whnf)) | (refine ⟨Nat.le_of_ble_eq_true rfl, ?_⟩; (conv => whnf)) | (refine ⟨⟨of_decide_eq_true rfl, of_decide_eq_true rfl⟩, ?_⟩; (conv => whnf)) | (refine ⟨of_decide_eq_true rfl, ?_⟩; (conv => whnf)) | (refine ⟨fun _ => ?_, fun h => Bool.noConfusion h⟩; (conv => whnf)))))
  refine W_round ?_
  ((conv => whnf); (repeat (first | (refine ⟨(by kernel_rfl : chk _ _ = true), ?_⟩; (conv => whnf)) | (refine ⟨rfl, ?_⟩; (conv => whnf)) | (refine ⟨Nat.le_of_ble_eq_true rfl, ?_⟩; (conv => whnf)) | (refine ⟨⟨of_decide_eq_true rfl, of_decide_eq_true rfl⟩, ?_⟩; (conv => whnf)) | (refine ⟨of_decide_eq_true rfl, ?_⟩; (conv => whnf)) | (refine ⟨fun _ => ?_, fun h => Bool.noConfusion h⟩; (conv => whnf)))))
  refine W_round ?_
  ((conv => whnf); (repeat (first | (refine ⟨(by kernel_rfl : chk _ _ = true), ?_⟩; (conv => whnf)) | (refine ⟨rfl, ?_⟩; (conv => whnf)) | (refine ⟨Nat.le_of_ble_eq_true rfl, ?_⟩; (conv => whnf)) | (refine ⟨⟨of_decide_eq_true rfl, of_decide_eq_true rfl⟩, ?_⟩; (conv => whnf)) | (refine ⟨of_decide_eq_true rfl, ?_⟩; (conv => whnf)) | (refine ⟨fun _ => ?_, fun h => Bool.noConfusion h⟩; (conv => whnf)))))
  refine W_round ?_
  ((conv => whnf); (repeat (first | (refine ⟨(by kernel_rfl : chk _ _ = true), ?_⟩; (conv => whnf)) | (refine ⟨rfl, ?_⟩; (conv => whnf)) | (refine ⟨Nat.le_of_ble_eq_true rfl, ?_⟩; (conv => whnf)) | (refine ⟨⟨of_decide_eq_true rfl, of_decide_eq_true rfl⟩, ?_⟩; (conv => whnf)) | (refine ⟨of_decide_eq_true rfl, ?_⟩; (conv => whnf)) | (refine ⟨fun _ => ?_, fun h => Bool.noConfusion h⟩; (conv => whnf)))))
  refine W_round ?_
  ((conv => whnf); (repeat (first | (refine ⟨(by kernel_rfl : chk _ _ = true), ?_⟩; (conv => whnf)) | (refine ⟨rfl, ?_⟩; (conv => whnf)) | (refine ⟨Nat.le_of_ble_eq_true rfl, ?_⟩; (conv => whnf)) | (refine ⟨⟨of_decide_eq_true rfl, of_decide_eq_true rfl⟩, ?_⟩; (conv => whnf)) | (refine ⟨of_decide_eq_true rfl, ?_⟩; (conv => whnf)) | (refine ⟨fun _ => ?_, fun h => Bool.noConfusion h⟩; (conv => whnf)))))
  refine W_round ?_
  ((conv => whnf); (repeat (first | (refine ⟨(by kernel_rfl : chk _ _ = true), ?_⟩; (conv => whnf)) | (refine ⟨rfl, ?_⟩; (conv => whnf)) | (refine ⟨Nat.le_of_ble_eq_true rfl, ?_⟩; (conv => whnf)) | (refine ⟨⟨of_decide_eq_true rfl, of_decide_eq_true rfl⟩, ?_⟩; (conv => whnf)) | (refine ⟨of_decide_eq_true rfl, ?_⟩; (conv => whnf)) | (refine ⟨fun _ => ?_, fun h => Bool.noConfusion h⟩; (conv => whnf)))))
  refine W_round ?_
  ((conv => whnf); (repeat (first | (refine ⟨rfl, ?_⟩; (conv => whnf)) | (refine ⟨Nat.le_of_ble_eq_true rfl, ?_⟩; (conv => whnf)) | (refine ⟨fun h => Bool.noConfusion h, fun _ => ?_⟩; (conv => whnf)))))
  exact retPure_ret rfl rfl
theorem eq9 {a b c d e f g h i a' b' c' d' e' f' g' h' i' : Int} (h1 : a = a') (h2 : b = b') (h3 : c = c') (h4 : d = d') (h5 : e = e') (h6 : f = f') (h7 : g = g') (h8 : h = h') (h9 : i = i') :
    SV.c true [.i a, .i b, .i c, .i d, .i e, .i f, .i g, .i h, .i i] = .c true [.i a', .i b', .i c', .i d', .i e', .i f', .i g', .i h', .i i'] := by rw [h1, h2, h3, h4, h5, h6, h7, h8, h9]
def M3.scale (m : M3) (s : Int) : M3 := ⟨m.a * s, m.b * s, m.c * s, m.d * s, m.e * s, m.f * s, m.g * s, m.h * s, m.i * s⟩
theorem scale_spec {m : M3} {s : Int} (hm : m.bd 1073741824) (hs : -1073741824 ≤ s ∧ s ≤ 1073741824) : Spec Tryz.prog gl 51 none [(true, m.cs), (false, [.i s])] (.c true (m.scale s).cs) none := by
  refine spec_plain A51_comp Tryz.func51 Tryz.call51 fol Tryz.ntmps51 Tryz.results51 (argsB_spec rfl) (Nat.le_of_ble_eq_true rfl) (idf_c rfl) ?_
  (conv => whnf)
  refine W_round ?_
  ((conv => whnf); (repeat (first | (refine ⟨(by kernel_rfl : chk _ _ = true), ?_⟩; (conv => whnf)) | (refine ⟨rfl, ?_⟩; (conv => whnf)) | (refine ⟨Nat.le_of_ble_eq_true rfl, ?_⟩; (conv => whnf)) | (refine ⟨⟨of_decide_eq_true rfl, of_decide_eq_true rfl⟩, ?_⟩; (conv => whnf)) | (refine ⟨of_decide_eq_true rfl, ?_⟩; (conv => whnf)) | (refine ⟨fun _ => ?_, fun h => Bool.noConfusion h⟩; (conv => whnf)))))
  refine W_round ?_
  ((conv => whnf); (repeat (first | (refine ⟨(by kernel_rfl : chk _ _ = true), ?_⟩; (conv => whnf)) | (refine ⟨rfl, ?_⟩; (conv => whnf)) | (refine ⟨Nat.le_of_ble_eq_true rfl, ?_⟩; (conv => whnf)) | (refine ⟨⟨of_decide_eq_true rfl, of_decide_eq_true rfl⟩, ?_⟩; (conv => whnf)) | (refine ⟨of_decide_eq_true rfl, ?_⟩; (conv => whnf)) | (refine ⟨fun _ => ?_, fun h => Bool.noConfusion h⟩; (conv => whnf)))))
  refine W_round ?_
  ((conv => whnf); (repeat (first | (refine ⟨(by kernel_rfl : chk _ _ = true), ?_⟩; (conv => whnf)) | (refine ⟨rfl, ?_⟩; (conv => whnf)) | (refine ⟨Nat.le_of_ble_eq_true rfl, ?_⟩; (conv => whnf)) | (refine ⟨⟨of_decide_eq_true rfl, of_decide_eq_true rfl⟩, ?_⟩; (conv => whnf)) | (refine ⟨of_decide_eq_true rfl, ?_⟩; (conv => whnf)) | (refine ⟨fun _ => ?_, fun h => Bool.noConfusion h⟩; (conv => whnf)))))
  refine W_round ?_
  ((conv => whnf); (repeat (first | (refine ⟨(by kernel_rfl : chk _ _ = true), ?_⟩; (conv => whnf)) | (refine ⟨rfl, ?_⟩; (conv => whnf)) | (refine ⟨Nat.le_of_ble_eq_true rfl, ?_⟩; (conv => whnf)) | (refine ⟨⟨of_decide_eq_true rfl, of_decide_eq_true rfl⟩, ?_⟩; (conv => whnf)) | (refine ⟨of_decide_eq_true rfl, ?_⟩; (conv => whnf)) | (refine ⟨fun _ => ?_, fun h => Bool.noConfusion h⟩; (conv => whnf)))))
  refine W_round ?_
  ((conv => whnf); (repeat (first | (refine ⟨(by kernel_rfl : chk _ _ = true), ?_⟩; (conv => whnf)) | (refine ⟨rfl, ?_⟩; (conv => whnf)) | (refine ⟨Nat.le_of_ble_eq_true rfl, ?_⟩; (conv => whnf)) | (refine ⟨⟨of_decide_eq_true rfl, of_decide_eq_true rfl⟩, ?_⟩; (conv => whnf)) | (refine ⟨of_decide_eq_true rfl, ?_⟩; (conv => whnf)) | (refine ⟨fun _ => ?_, fun h => Bool.noConfusion h⟩; (conv => whnf)))))
  refine W_round ?_
  ((conv => whnf); (repeat (first | (refine ⟨(by kernel_rfl : chk _ _ = true), ?_⟩; (conv => whnf)) | (refine ⟨rfl, ?_⟩; (conv => whnf)) | (refine ⟨Nat.le_of_ble_eq_true rfl, ?_⟩; (conv => whnf)) | (refine ⟨⟨of_decide_eq_true rfl, of_decide_eq_true rfl⟩, ?_⟩; (conv => whnf)) | (refine ⟨of_decide_eq_true rfl, ?_⟩; (conv => whnf)) | (refine ⟨fun _ => ?_, fun h => Bool.noConfusion h⟩; (conv => whnf)))))
  refine W_round ?_
  ((conv => whnf); (repeat (first | (refine ⟨(by kernel_rfl : chk _ _ = true), ?_⟩; (conv => whnf)) | (refine ⟨rfl, ?_⟩; (conv => whnf)) | (refine ⟨Nat.le_of_ble_eq_true rfl, ?_⟩; (conv => whnf)) | (refine ⟨⟨of_decide_eq_true rfl, of_decide_eq_true rfl⟩, ?_⟩; (conv => whnf)) | (refine ⟨of_decide_eq_true rfl, ?_⟩; (conv => whnf)) | (refine ⟨fun _ => ?_, fun h => Bool.noConfusion h⟩; (conv => whnf)))))
  refine W_round ?_
  ((conv => whnf); (repeat (first | (refine ⟨(by kernel_rfl : chk _ _ = true), ?_⟩; (conv => whnf)) | (refine ⟨rfl, ?_⟩; (conv => whnf)) | (refine ⟨Nat.le_of_ble_eq_true rfl, ?_⟩; (conv => whnf)) | (refine ⟨⟨of_decide_eq_true rfl, of_decide_eq_true rfl⟩, ?_⟩; (conv => whnf)) | (refine ⟨of_decide_eq_true rfl, ?_⟩; (conv => whnf)) | (refine ⟨fun _ => ?_, fun h => Bool.noConfusion h⟩; (conv => whnf)))))
  refine W_round ?_
  ((conv => whnf); (repeat (first | (refine ⟨(by kernel_rfl : chk _ _ = true), ?_⟩; (conv => whnf)) | (refine ⟨rfl, ?_⟩; (conv => whnf)) | (refine ⟨Nat.le_of_ble_eq_true rfl, ?_⟩; (conv => whnf)) | (refine ⟨⟨of_decide_eq_true rfl, of_decide_eq_true rfl⟩, ?_⟩; (conv => whnf)) | (refine ⟨of_decide_eq_true rfl, ?_⟩; (conv => whnf)) | (refine ⟨fun _ => ?_, fun h => Bool.noConfusion h⟩; (conv => whnf)))))
  refine W_round ?_
  ((conv => whnf); (repeat (first | (refine ⟨rfl, ?_⟩; (conv => whnf)) | (refine ⟨Nat.le_of_ble_eq_true rfl, ?_⟩; (conv => whnf)) | (refine ⟨fun h => Bool.noConfusion h, fun _ => ?_⟩; (conv => whnf)))))
  refine retPure_ret rfl ?_
  obtain ⟨h1, h2, h3, h4, h5, h6, h7, h8, h9⟩ := hm
  have g1 := mul_bd h1 hs; have g2 := mul_bd h2 hs; have g3 := mul_bd h3 hs; have g4 := mul_bd h4 hs; have g5 := mul_bd h5 hs; have g6 := mul_bd h6 hs; have g7 := mul_bd h7 hs; have g8 := mul_bd h8 hs; have g9 := mul_bd h9 hs
  exact eq9 (wr (by omega)) (wr (by omega)) (wr (by omega)) (wr (by omega)) (wr (by omega)) (wr (by omega)) (wr (by omega)) (wr (by omega)) (wr (by omega))
end Go.Proofs.YtlbafapmhjfobaaGreatDoor
namespace Go.Proofs.YtlbafapmhjfobaaGreatDoor
set_option maxRecDepth 100000
attribute [local irreducible] LoopW RngW retPure retFresh retBox retTurn
variable {gl : Nat → Option (List AV)}
def M3.c0 (m : M3) : V3 := ⟨m.a, m.d, m.g⟩
def M3.c1 (m : M3) : V3 := ⟨m.b, m.e, m.h⟩
def M3.c2 (m : M3) : V3 := ⟨m.c, m.f, m.i⟩
def M3.mul (m o : M3) : M3 := ⟨m.r0.dot o.c0, m.r0.dot o.c1, m.r0.dot o.c2, m.r1.dot o.c0, m.r1.dot o.c1, m.r1.dot o.c2, m.r2.dot o.c0, m.r2.dot o.c1, m.r2.dot o.c2⟩
theorem dot_wr0 {a b c x y z k l : Int} (ha : -k ≤ a ∧ a ≤ k) (hb : -k ≤ b ∧ b ≤ k) (hc : -k ≤ c ∧ c ≤ k) (hx : -l ≤ x ∧ x ≤ l) (hy : -l ≤ y ∧ y ≤ l) (hz : -l ≤ z ∧ z ≤ l) (h : k * l ≤ 1152921504606846976) :
    IntKind.i64.wrap (IntKind.i64.wrap (IntKind.i64.wrap (0 + IntKind.i64.wrap (a * x)) + IntKind.i64.wrap (b * y)) + IntKind.i64.wrap (c * z)) = a * x + b * y + c * z := by
  have h1 := mul_bd ha hx
  have h2 := mul_bd hb hy
  have h3 := mul_bd hc hz
  rw [wr (n := a * x) (by omega), wr (n := b * y) (by omega), wr (n := c * z) (by omega), Int.zero_add, wr (n := a * x) (by omega), wr (n := a * x + b * y) (by omega)]
  exact wr (by omega)
theorem mul_spec {m o : M3} (hm : m.bd 1073741824) (ho : o.bd 1073741824) : Spec Tryz.prog gl 49 none [(true, m.cs), (true, o.cs)] (.c true (m.mul o).cs) none := by
  refine spec_plain A49_comp Tryz.func49 Tryz.call49 fol Tryz.ntmps49 Tryz.results49 (argsB_spec rfl) (Nat.le_of_ble_eq_true rfl) (idf_c rfl) ?_
  (conv => whnf)
  refine W_round ?_
  ((conv => whnf); (repeat (first | (refine ⟨rfl, ?_⟩; (conv => whnf)) | (refine ⟨of_decide_eq_true rfl, ?_⟩; (conv => whnf)) | (refine ⟨fun _ => ?_, fun h => Bool.noConfusion h⟩; (conv => whnf)))))
  refine W_round ?_
  ((conv => whnf); (repeat (first | (refine ⟨(by kernel_rfl : chk _ _ = true), ?_⟩; (conv => whnf)) | (refine ⟨rfl, ?_⟩; (conv => whnf)) | (refine ⟨Nat.le_of_ble_eq_true rfl, ?_⟩; (conv => whnf)) | (refine ⟨⟨of_decide_eq_true rfl, of_decide_eq_true rfl⟩, ?_⟩; (conv => whnf)) | (refine ⟨fun _ => ?_, fun h => Bool.noConfusion h⟩; (conv => whnf)))))
  refine W_round ?_
  ((conv => whnf); (repeat (first | (refine ⟨(by kernel_rfl : chk _ _ = true), ?_⟩; (conv => whnf)) | (refine ⟨rfl, ?_⟩; (conv => whnf)) | (refine ⟨Nat.le_of_ble_eq_true rfl, ?_⟩; (conv => whnf)) | (refine ⟨⟨of_decide_eq_true rfl, of_decide_eq_true rfl⟩, ?_⟩; (conv => whnf)) | (refine ⟨fun _ => ?_, fun h => Bool.noConfusion h⟩; (conv => whnf)))))
  refine W_round ?_
  ((conv => whnf); (repeat (first | (refine ⟨(by kernel_rfl : chk _ _ = true), ?_⟩; (conv => whnf)) | (refine ⟨rfl, ?_⟩; (conv => whnf)) | (refine ⟨Nat.le_of_ble_eq_true rfl, ?_⟩; (conv => whnf)) | (refine ⟨⟨of_decide_eq_true rfl, of_decide_eq_true rfl⟩, ?_⟩; (conv => whnf)) | (refine ⟨fun _ => ?_, fun h => Bool.noConfusion h⟩; (conv => whnf)))))
  refine W_round ?_
  ((conv => whnf); (repeat (first | (refine ⟨rfl, ?_⟩; (conv => whnf)) | (refine ⟨fun h => Bool.noConfusion h, fun _ => ?_⟩; (conv => whnf)))))
  refine W_round ?_
  ((conv => whnf); (repeat (first | (refine ⟨rfl, ?_⟩; (conv => whnf)) | (refine ⟨of_decide_eq_true rfl, ?_⟩; (conv => whnf)) | (refine ⟨fun _ => ?_, fun h => Bool.noConfusion h⟩; (conv => whnf)))))
  refine W_round ?_
  ((conv => whnf); (repeat (first | (refine ⟨(by kernel_rfl : chk _ _ = true), ?_⟩; (conv => whnf)) | (refine ⟨rfl, ?_⟩; (conv => whnf)) | (refine ⟨Nat.le_of_ble_eq_true rfl, ?_⟩; (conv => whnf)) | (refine ⟨⟨of_decide_eq_true rfl, of_decide_eq_true rfl⟩, ?_⟩; (conv => whnf)) | (refine ⟨fun _ => ?_, fun h => Bool.noConfusion h⟩; (conv => whnf)))))
  refine W_round ?_
  ((conv => whnf); (repeat (first | (refine ⟨(by kernel_rfl : chk _ _ = true), ?_⟩; (conv => whnf)) | (refine ⟨rfl, ?_⟩; (conv => whnf)) | (refine ⟨Nat.le_of_ble_eq_true rfl, ?_⟩; (conv => whnf)) | (refine ⟨⟨of_decide_eq_true rfl, of_decide_eq_true rfl⟩, ?_⟩; (conv => whnf)) | (refine ⟨fun _ => ?_, fun h => Bool.noConfusion h⟩; (conv => whnf)))))
  refine W_round ?_
  ((conv => whnf); (repeat (first | (refine ⟨(by kernel_rfl : chk _ _ = true), ?_⟩; (conv => whnf)) | (refine ⟨rfl, ?_⟩; (conv => whnf)) | (refine ⟨Nat.le_of_ble_eq_true rfl, ?_⟩; (conv => whnf)) | (refine ⟨⟨of_decide_eq_true rfl, of_decide_eq_true rfl⟩, ?_⟩; (conv => whnf)) | (refine ⟨fun _ => ?_, fun h => Bool.noConfusion h⟩; (conv => whnf)))))
  refine W_round ?_
  ((conv => whnf); (repeat (first | (refine ⟨rfl, ?_⟩; (conv => whnf)) | (refine ⟨fun h => Bool.noConfusion h, fun _ => ?_⟩; (conv => whnf)))))
  refine W_round ?_
  ((conv => whnf); (repeat (first | (refine ⟨rfl, ?_⟩; (conv => whnf)) | (refine ⟨of_decide_eq_true rfl, ?_⟩; (conv => whnf)) | (refine ⟨fun _ => ?_, fun h => Bool.noConfusion h⟩; (conv => whnf)))))
  refine W_round ?_
  ((conv => whnf); (repeat (first | (refine ⟨(by kernel_rfl : chk _ _ = true), ?_⟩; (conv => whnf)) | (refine ⟨rfl, ?_⟩; (conv => whnf)) | (refine ⟨Nat.le_of_ble_eq_true rfl, ?_⟩; (conv => whnf)) | (refine ⟨⟨of_decide_eq_true rfl, of_decide_eq_true rfl⟩, ?_⟩; (conv => whnf)) | (refine ⟨fun _ => ?_, fun h => Bool.noConfusion h⟩; (conv => whnf)))))
  refine W_round ?_
  ((conv => whnf); (repeat (first | (refine ⟨(by kernel_rfl : chk _ _ = true), ?_⟩; (conv => whnf)) | (refine ⟨rfl, ?_⟩; (conv => whnf)) | (refine ⟨Nat.le_of_ble_eq_true rfl, ?_⟩; (conv => whnf)) | (refine ⟨⟨of_decide_eq_true rfl, of_decide_eq_true rfl⟩, ?_⟩; (conv => whnf)) | (refine ⟨fun _ => ?_, fun h => Bool.noConfusion h⟩; (conv => whnf)))))
  refine W_round ?_
  ((conv => whnf); (repeat (first | (refine ⟨(by kernel_rfl : chk _ _ = true), ?_⟩; (conv => whnf)) | (refine ⟨rfl, ?_⟩; (conv => whnf)) | (refine ⟨Nat.le_of_ble_eq_true rfl, ?_⟩; (conv => whnf)) | (refine ⟨⟨of_decide_eq_true rfl, of_decide_eq_true rfl⟩, ?_⟩; (conv => whnf)) | (refine ⟨fun _ => ?_, fun h => Bool.noConfusion h⟩; (conv => whnf)))))
  refine W_round ?_
  ((conv => whnf); (repeat (first | (refine ⟨rfl, ?_⟩; (conv => whnf)) | (refine ⟨fun h => Bool.noConfusion h, fun _ => ?_⟩; (conv => whnf)))))
  refine W_round ?_
  ((conv => whnf); (repeat (first | (refine ⟨rfl, ?_⟩; (conv => whnf)) | (refine ⟨of_decide_eq_true rfl, ?_⟩; (conv => whnf)) | (refine ⟨fun _ => ?_, fun h => Bool.noConfusion h⟩; (conv => whnf)))))
  refine W_round ?_
  ((conv => whnf); (repeat (first | (refine ⟨(by kernel_rfl : chk _ _ = true), ?_⟩; (conv => whnf)) | (refine ⟨rfl, ?_⟩; (conv => whnf)) | (refine ⟨Nat.le_of_ble_eq_true rfl, ?_⟩; (conv => whnf)) | (refine ⟨⟨of_decide_eq_true rfl, of_decide_eq_true rfl⟩, ?_⟩; (conv => whnf)) | (refine ⟨fun _ => ?_, fun h => Bool.noConfusion h⟩; (conv => whnf)))))
  refine W_round ?_
  ((conv => whnf); (repeat (first | (refine ⟨(by kernel_rfl : chk _ _ = true), ?_⟩; (conv => whnf)) | (refine ⟨rfl, ?_⟩; (conv => whnf)) | (refine ⟨Nat.le_of_ble_eq_true rfl, ?_⟩; (conv => whnf)) | (refine ⟨⟨of_decide_eq_true rfl, of_decide_eq_true rfl⟩, ?_⟩; (conv => whnf)) | (refine ⟨fun _ => ?_, fun h => Bool.noConfusion h⟩; (conv => whnf)))))
  refine W_round ?_
  ((conv => whnf); (repeat (first | (refine ⟨(by kernel_rfl : chk _ _ = true), ?_⟩; (conv => whnf)) | (refine ⟨rfl, ?_⟩; (conv => whnf)) | (refine ⟨Nat.le_of_ble_eq_true rfl, ?_⟩; (conv => whnf)) | (refine ⟨⟨of_decide_eq_true rfl, of_decide_eq_true rfl⟩, ?_⟩; (conv => whnf)) | (refine ⟨fun _ => ?_, fun h => Bool.noConfusion h⟩; (conv => whnf)))))
  refine W_round ?_
  ((conv => whnf); (repeat (first | (refine ⟨rfl, ?_⟩; (conv => whnf)) | (refine ⟨fun h => Bool.noConfusion h, fun _ => ?_⟩; (conv => whnf)))))
  refine W_round ?_
  ((conv => whnf); (repeat (first | (refine ⟨rfl, ?_⟩; (conv => whnf)) | (refine ⟨of_decide_eq_true rfl, ?_⟩; (conv => whnf)) | (refine ⟨fun _ => ?_, fun h => Bool.noConfusion h⟩; (conv => whnf)))))
  refine W_round ?_
  ((conv => whnf); (repeat (first | (refine ⟨(by kernel_rfl : chk _ _ = true), ?_⟩; (conv => whnf)) | (refine ⟨rfl, ?_⟩; (conv => whnf)) | (refine ⟨Nat.le_of_ble_eq_true rfl, ?_⟩; (conv => whnf)) | (refine ⟨⟨of_decide_eq_true rfl, of_decide_eq_true rfl⟩, ?_⟩; (conv => whnf)) | (refine ⟨fun _ => ?_, fun h => Bool.noConfusion h⟩; (conv => whnf)))))
  refine W_round ?_
  ((conv => whnf); (repeat (first | (refine ⟨(by kernel_rfl : chk _ _ = true), ?_⟩; (conv => whnf)) | (refine ⟨rfl, ?_⟩; (conv => whnf)) | (refine ⟨Nat.le_of_ble_eq_true rfl, ?_⟩; (conv => whnf)) | (refine ⟨⟨of_decide_eq_true rfl, of_decide_eq_true rfl⟩, ?_⟩; (conv => whnf)) | (refine ⟨fun _ => ?_, fun h => Bool.noConfusion h⟩; (conv => whnf)))))
  refine W_round ?_
  ((conv => whnf); (repeat (first | (refine ⟨(by kernel_rfl : chk _ _ = true), ?_⟩; (conv => whnf)) | (refine ⟨rfl, ?_⟩; (conv => whnf)) | (refine ⟨Nat.le_of_ble_eq_true rfl, ?_⟩; (conv => whnf)) | (refine ⟨⟨of_decide_eq_true rfl, of_decide_eq_true rfl⟩, ?_⟩; (conv => whnf)) | (refine ⟨fun _ => ?_, fun h => Bool.noConfusion h⟩; (conv => whnf)))))
  refine W_round ?_
  ((conv => whnf); (repeat (first | (refine ⟨rfl, ?_⟩; (conv => whnf)) | (refine ⟨fun h => Bool.noConfusion h, fun _ => ?_⟩; (conv => whnf)))))
  refine W_round ?_
  ((conv => whnf); (repeat (first | (refine ⟨rfl, ?_⟩; (conv => whnf)) | (refine ⟨of_decide_eq_true rfl, ?_⟩; (conv => whnf)) | (refine ⟨fun _ => ?_, fun h => Bool.noConfusion h⟩; (conv => whnf)))))
  refine W_round ?_
  ((conv => whnf); (repeat (first | (refine ⟨(by kernel_rfl : chk _ _ = true), ?_⟩; (conv => whnf)) | (refine ⟨rfl, ?_⟩; (conv => whnf)) | (refine ⟨Nat.le_of_ble_eq_true rfl, ?_⟩; (conv => whnf)) | (refine ⟨⟨of_decide_eq_true rfl, of_decide_eq_true rfl⟩, ?_⟩; (conv => whnf)) | (refine ⟨fun _ => ?_, fun h => Bool.noConfusion h⟩; (conv => whnf)))))
  refine W_round ?_
  ((conv => whnf); (repeat (first | (refine ⟨(by kernel_rfl : chk _ _ = true), ?_⟩; (conv => whnf)) | (refine ⟨rfl, ?_⟩; (conv => whnf)) | (refine ⟨Nat.le_of_ble_eq_true rfl, ?_⟩; (conv => whnf)) | (refine ⟨⟨of_decide_eq_true rfl, of_decide_eq_true rfl⟩, ?_⟩; (conv => whnf)) | (refine ⟨fun _ => ?_, fun h => Bool.noConfusion h⟩; (conv => whnf)))))
  refine W_round ?_
  ((conv => whnf); (repeat (first | (refine ⟨(by kernel_rfl : chk _ _ = true), ?_⟩; (conv => whnf)) | (refine ⟨rfl, ?_⟩; (conv => whnf)) | (refine ⟨Nat.le_of_ble_eq_true rfl, ?_⟩; (conv => whnf)) | (refine ⟨⟨of_decide_eq_true rfl, of_decide_eq_true rfl⟩, ?_⟩; (conv => whnf)) | (refine ⟨fun _ => ?_, fun h => Bool.noConfusion h⟩; (conv => whnf)))))
  refine W_round ?_
  ((conv => whnf); (repeat (first | (refine ⟨rfl, ?_⟩; (conv => whnf)) | (refine ⟨fun h => Bool.noConfusion h, fun _ => ?_⟩; (conv => whnf)))))
  refine W_round ?_
  ((conv => whnf); (repeat (first | (refine ⟨rfl, ?_⟩; (conv => whnf)) | (refine ⟨of_decide_eq_true rfl, ?_⟩; (conv => whnf)) | (refine ⟨fun _ => ?_, fun h => Bool.noConfusion h⟩; (conv => whnf)))))
  refine W_round ?_
  ((conv => whnf); (repeat (first | (refine ⟨(by kernel_rfl : chk _ _ = true), ?_⟩; (conv => whnf)) | (refine ⟨rfl, ?_⟩; (conv => whnf)) | (refine ⟨Nat.le_of_ble_eq_true rfl, ?_⟩; (conv => whnf)) | (refine ⟨⟨of_decide_eq_true rfl, of_decide_eq_true rfl⟩, ?_⟩; (conv => whnf)) | (refine ⟨fun _ => ?_, fun h => Bool.noConfusion h⟩; (conv => whnf)))))
  refine W_round ?_
  ((conv => whnf); (repeat (first | (refine ⟨(by kernel_rfl : chk _ _ = true), ?_⟩; (conv => whnf)) | (refine ⟨rfl, ?_⟩; (conv => whnf)) | (refine ⟨Nat.le_of_ble_eq_true rfl, ?_⟩; (conv => whnf)) | (refine ⟨⟨of_decide_eq_true rfl, of_decide_eq_true rfl⟩, ?_⟩; (conv => whnf)) | (refine ⟨fun _ => ?_, fun h => Bool.noConfusion h⟩; (conv => whnf)))))
  refine W_round ?_
  ((conv => whnf); (repeat (first | (refine ⟨(by kernel_rfl : chk _ _ = true), ?_⟩; (conv => whnf)) | (refine ⟨rfl, ?_⟩; (conv => whnf)) | (refine ⟨Nat.le_of_ble_eq_true rfl, ?_⟩; (conv => whnf)) | (refine ⟨⟨of_decide_eq_true rfl, of_decide_eq_true rfl⟩, ?_⟩; (conv => whnf)) | (refine ⟨fun _ => ?_, fun h => Bool.noConfusion h⟩; (conv => whnf)))))
  refine W_round ?_
  ((conv => whnf); (repeat (first | (refine ⟨rfl, ?_⟩; (conv => whnf)) | (refine ⟨fun h => Bool.noConfusion h, fun _ => ?_⟩; (conv => whnf)))))
  refine W_round ?_
  ((conv => whnf); (repeat (first | (refine ⟨rfl, ?_⟩; (conv => whnf)) | (refine ⟨of_decide_eq_true rfl, ?_⟩; (conv => whnf)) | (refine ⟨fun _ => ?_, fun h => Bool.noConfusion h⟩; (conv => whnf)))))
  refine W_round ?_
  ((conv => whnf); (repeat (first | (refine ⟨(by kernel_rfl : chk _ _ = true), ?_⟩; (conv => whnf)) | (refine ⟨rfl, ?_⟩; (conv => whnf)) | (refine ⟨Nat.le_of_ble_eq_true rfl, ?_⟩; (conv => whnf)) | (refine ⟨⟨of_decide_eq_true rfl, of_decide_eq_true rfl⟩, ?_⟩; (conv => whnf)) | (refine ⟨fun _ => ?_, fun h => Bool.noConfusion h⟩; (conv => whnf)))))
  refine W_round ?_
  ((conv => whnf); (repeat (first | (refine ⟨(by kernel_rfl : chk _ _ = true), ?_⟩; (conv => whnf)) | (refine ⟨rfl, ?_⟩; (conv => whnf)) | (refine ⟨Nat.le_of_ble_eq_true rfl, ?_⟩; (conv => whnf)) | (refine ⟨⟨of_decide_eq_true rfl, of_decide_eq_true rfl⟩, ?_⟩; (conv => whnf)) | (refine ⟨fun _ => ?_, fun h => Bool.noConfusion h⟩; (conv => whnf)))))
  refine W_round ?_
  ((conv => whnf); (repeat (first | (refine ⟨(by kernel_rfl : chk _ _ = true), ?_⟩; (conv => whnf)) | (refine ⟨rfl, ?_⟩; (conv => whnf)) | (refine ⟨Nat.le_of_ble_eq_true rfl, ?_⟩; (conv => whnf)) | (refine ⟨⟨of_decide_eq_true rfl, of_decide_eq_true rfl⟩, ?_⟩; (conv => whnf)) | (refine ⟨fun _ => ?_, fun h => Bool.noConfusion h⟩; (conv => whnf)))))
  refine W_round ?_
  ((conv => whnf); (repeat (first | (refine ⟨rfl, ?_⟩; (conv => whnf)) | (refine ⟨fun h => Bool.noConfusion h, fun _ => ?_⟩; (conv => whnf)))))
  refine W_round ?_
  ((conv => whnf); (repeat (first | (refine ⟨rfl, ?_⟩; (conv => whnf)) | (refine ⟨of_decide_eq_true rfl, ?_⟩; (conv => whnf)) | (refine ⟨fun _ => ?_, fun h => Bool.noConfusion h⟩; (conv => whnf)))))
  refine W_round ?_
  ((conv => whnf); (repeat (first | (refine ⟨(by kernel_rfl : chk _ _ = true), ?_⟩; (conv => whnf)) | (refine ⟨rfl, ?_⟩; (conv => whnf)) | (refine ⟨Nat.le_of_ble_eq_true rfl, ?_⟩; (conv => whnf)) | (refine ⟨⟨of_decide_eq_true rfl, of_decide_eq_true rfl⟩, ?_⟩; (conv => whnf)) | (refine ⟨fun _ => ?_, fun h => Bool.noConfusion h⟩; (conv => whnf)))))
  refine W_round ?_
  ((conv => whnf); (repeat (first | (refine ⟨(by kernel_rfl : chk _ _ = true), ?_⟩; (conv => whnf)) | (refine ⟨rfl, ?_⟩; (conv => whnf)) | (refine ⟨Nat.le_of_ble_eq_true rfl, ?_⟩; (conv => whnf)) | (refine ⟨⟨of_decide_eq_true rfl, of_decide_eq_true rfl⟩, ?_⟩; (conv => whnf)) | (refine ⟨fun _ => ?_, fun h => Bool.noConfusion h⟩; (conv => whnf)))))
  refine W_round ?_
  ((conv => whnf); (repeat (first | (refine ⟨(by kernel_rfl : chk _ _ = true), ?_⟩; (conv => whnf)) | (refine ⟨rfl, ?_⟩; (conv => whnf)) | (refine ⟨Nat.le_of_ble_eq_true rfl, ?_⟩; (conv => whnf)) | (refine ⟨⟨of_decide_eq_true rfl, of_decide_eq_true rfl⟩, ?_⟩; (conv => whnf)) | (refine ⟨fun _ => ?_, fun h => Bool.noConfusion h⟩; (conv => whnf)))))
  refine W_round ?_
  ((conv => whnf); (repeat (first | (refine ⟨rfl, ?_⟩; (conv => whnf)) | (refine ⟨fun h => Bool.noConfusion h, fun _ => ?_⟩; (conv => whnf)))))
  refine W_round ?_
  ((conv => whnf); (repeat (first | (refine ⟨rfl, ?_⟩; (conv => whnf)) | (refine ⟨Nat.le_of_ble_eq_true rfl, ?_⟩; (conv => whnf)) | (refine ⟨fun h => Bool.noConfusion h, fun _ => ?_⟩; (conv => whnf)))))
  refine retPure_ret rfl ?_
  obtain ⟨h1, h2, h3, h4, h5, h6, h7, h8, h9⟩ := hm
  obtain ⟨g1, g2, g3, g4, g5, g6, g7, g8, g9⟩ := ho
  exact eq9 (dot_wr0 h1 h2 h3 g1 g4 g7 (by decide)) (dot_wr0 h1 h2 h3 g2 g5 g8 (by decide)) (dot_wr0 h1 h2 h3 g3 g6 g9 (by decide))
    (dot_wr0 h4 h5 h6 g1 g4 g7 (by decide)) (dot_wr0 h4 h5 h6 g2 g5 g8 (by decide)) (dot_wr0 h4 h5 h6 g3 g6 g9 (by decide))
    (dot_wr0 h7 h8 h9 g1 g4 g7 (by decide)) (dot_wr0 h7 h8 h9 g2 g5 g8 (by decide)) (dot_wr0 h7 h8 h9 g3 g6 g9 (by decide))
end Go.Proofs.YtlbafapmhjfobaaGreatDoor
namespace Go.Proofs.YtlbafapmhjfobaaGreatDoor
set_option maxRecDepth 100000
attribute [local irreducible] LoopW RngW retPure retFresh retBox retTurn
variable {gl : Nat → Option (List AV)}
theorem row0_spec (m : M3) : Spec Tryz.prog gl 88 none [(false, [.i 0]), (false, [.ref m.cs])] (.c true m.r0.cs) none := by
  refine spec_plain A88_comp Tryz.func88 Tryz.call88 fol Tryz.ntmps88 Tryz.results88 (argsB_spec rfl) (Nat.le_of_ble_eq_true rfl) (idf_c rfl) ?_
  ((conv => whnf); (repeat (first | (refine ⟨(by kernel_rfl : chk _ _ = true), ?_⟩; (conv => whnf)) | (refine ⟨rfl, ?_⟩; (conv => whnf)) | (refine ⟨Nat.le_of_ble_eq_true rfl, ?_⟩; (conv => whnf)) | (refine ⟨⟨of_decide_eq_true rfl, of_decide_eq_true rfl⟩, ?_⟩; (conv => whnf)))))
  exact retPure_ret rfl rfl
theorem row1_spec (m : M3) : Spec Tryz.prog gl 88 none [(false, [.i 1]), (false, [.ref m.cs])] (.c true m.r1.cs) none := by
  refine spec_plain A88_comp Tryz.func88 Tryz.call88 fol Tryz.ntmps88 Tryz.results88 (argsB_spec rfl) (Nat.le_of_ble_eq_true rfl) (idf_c rfl) ?_
  ((conv => whnf); (repeat (first | (refine ⟨(by kernel_rfl : chk _ _ = true), ?_⟩; (conv => whnf)) | (refine ⟨rfl, ?_⟩; (conv => whnf)) | (refine ⟨Nat.le_of_ble_eq_true rfl, ?_⟩; (conv => whnf)) | (refine ⟨⟨of_decide_eq_true rfl, of_decide_eq_true rfl⟩, ?_⟩; (conv => whnf)))))
  exact retPure_ret rfl rfl
theorem row2_spec (m : M3) : Spec Tryz.prog gl 88 none [(false, [.i 2]), (false, [.ref m.cs])] (.c true m.r2.cs) none := by
  refine spec_plain A88_comp Tryz.func88 Tryz.call88 fol Tryz.ntmps88 Tryz.results88 (argsB_spec rfl) (Nat.le_of_ble_eq_true rfl) (idf_c rfl) ?_
  ((conv => whnf); (repeat (first | (refine ⟨(by kernel_rfl : chk _ _ = true), ?_⟩; (conv => whnf)) | (refine ⟨rfl, ?_⟩; (conv => whnf)) | (refine ⟨Nat.le_of_ble_eq_true rfl, ?_⟩; (conv => whnf)) | (refine ⟨⟨of_decide_eq_true rfl, of_decide_eq_true rfl⟩, ?_⟩; (conv => whnf)))))
  exact retPure_ret rfl rfl
def M3.det (m : M3) : Int := m.r0.dot (m.r1.cross m.r2)
theorem M3.bd.r {m : M3} {k : Int} (h : m.bd k) : m.r0.bd k ∧ m.r1.bd k ∧ m.r2.bd k := by
  obtain ⟨h1, h2, h3, h4, h5, h6, h7, h8, h9⟩ := h
  exact ⟨⟨h1, h2, h3⟩, ⟨h4, h5, h6⟩, ⟨h7, h8, h9⟩⟩
theorem det_spec {m : M3} (hm : m.bd 10000) : Spec Tryz.prog gl 52 none [(true, m.cs)] (.c false [.i m.det]) none := by
  refine spec_plain A52_comp Tryz.func52 Tryz.call52 fol Tryz.ntmps52 Tryz.results52 (argsB_spec rfl) (Nat.le_of_ble_eq_true rfl) (idf_c rfl) ?_
  obtain ⟨h0, h1, h2⟩ := hm.r
  (conv => whnf)
  refine ⟨mk [(1, .c false [.ref m.cs])] [] 100, .toF (fun b => b = 1) ⟨coeF.ref0 rfl rfl rfl, trivial⟩ trivial rfl rfl, ?_⟩
  (conv => whnf)
  refine call_pure (row0_spec m) rfl rfl rfl ?_
  (conv => whnf)
  refine call_pure (row1_spec m) rfl rfl rfl ?_
  (conv => whnf)
  refine call_pure (row2_spec m) rfl rfl rfl ?_
  (conv => whnf)
  refine call_pure (cross_spec (h1.mono (by omega)) (h2.mono (by omega))) rfl rfl rfl ?_
  (conv => whnf)
  refine call_pure (dot_spec (h0.mono (by omega)) ((cross_bd h1 h2).mono (by omega))) rfl rfl rfl ?_
  (conv => whnf)
  exact retPure_ret rfl rfl

/-- a shift is permitted -/
def V3.short (v : V3) : Bool := withinI 96 [v.x, v.y, v.z]
theorem short_spec (v : V3) : Spec Tryz.prog gl 68 none [(true, v.cs)] (.c false [.b v.short]) none := by
  refine spec_plain A68_comp Tryz.func68 Tryz.call68 fol Tryz.ntmps68 Tryz.results68 (argsB_spec rfl) (Nat.le_of_ble_eq_true rfl) (idf_c rfl) ?_
  have bad : ∀ x ∈ [v.x, v.y, v.z], ¬ (-96 ≤ x ∧ x ≤ 96) → false = v.short := by
    intro x hx h
    symm
    rw [V3.short, Bool.eq_false_iff]
    intro hw
    exact h (withinI_bd hw x hx)
  ((conv => whnf); (repeat (refine ⟨Nat.le_of_ble_eq_true rfl, ?_⟩; (conv => whnf))))
  refine W_round ?_
  ((conv => whnf); (repeat (first | (refine ⟨rfl, ?_⟩; (conv => whnf)) | (refine ⟨⟨of_decide_eq_true rfl, of_decide_eq_true rfl⟩, ?_⟩; (conv => whnf)) | (refine ⟨fun _ => ?_, fun h => Bool.noConfusion h⟩; (conv => whnf)))))
  cases lx : decide (v.x < -96)
  · ((conv => whnf); (repeat (first | (refine ⟨rfl, ?_⟩; (conv => whnf)) | (refine ⟨fun _ => ?_, fun h => Bool.noConfusion h⟩; (conv => whnf)) | (refine ⟨fun h => Bool.noConfusion h, fun _ => ?_⟩; (conv => whnf)))))
    cases gx : decide (96 < v.x)
    · ((conv => whnf); (repeat (first | (refine ⟨rfl, ?_⟩; (conv => whnf)) | (refine ⟨fun h => Bool.noConfusion h, fun _ => ?_⟩; (conv => whnf)))))
      refine W_round ?_
      ((conv => whnf); (repeat (first | (refine ⟨rfl, ?_⟩; (conv => whnf)) | (refine ⟨⟨of_decide_eq_true rfl, of_decide_eq_true rfl⟩, ?_⟩; (conv => whnf)) | (refine ⟨fun _ => ?_, fun h => Bool.noConfusion h⟩; (conv => whnf)))))
      cases ly : decide (v.y < -96)
      · ((conv => whnf); (repeat (first | (refine ⟨rfl, ?_⟩; (conv => whnf)) | (refine ⟨fun _ => ?_, fun h => Bool.noConfusion h⟩; (conv => whnf)) | (refine ⟨fun h => Bool.noConfusion h, fun _ => ?_⟩; (conv => whnf)))))
        cases gy : decide (96 < v.y)
        · ((conv => whnf); (repeat (first | (refine ⟨rfl, ?_⟩; (conv => whnf)) | (refine ⟨fun h => Bool.noConfusion h, fun _ => ?_⟩; (conv => whnf)))))
          refine W_round ?_
          ((conv => whnf); (repeat (first | (refine ⟨rfl, ?_⟩; (conv => whnf)) | (refine ⟨⟨of_decide_eq_true rfl, of_decide_eq_true rfl⟩, ?_⟩; (conv => whnf)) | (refine ⟨fun _ => ?_, fun h => Bool.noConfusion h⟩; (conv => whnf)))))
          cases lz : decide (v.z < -96)
          · ((conv => whnf); (repeat (first | (refine ⟨rfl, ?_⟩; (conv => whnf)) | (refine ⟨fun _ => ?_, fun h => Bool.noConfusion h⟩; (conv => whnf)) | (refine ⟨fun h => Bool.noConfusion h, fun _ => ?_⟩; (conv => whnf)))))
            cases gz : decide (96 < v.z)
            · ((conv => whnf); (repeat (first | (refine ⟨rfl, ?_⟩; (conv => whnf)) | (refine ⟨fun h => Bool.noConfusion h, fun _ => ?_⟩; (conv => whnf)))))
              refine W_round ?_
              ((conv => whnf); (repeat (first | (refine ⟨rfl, ?_⟩; (conv => whnf)) | (refine ⟨fun h => Bool.noConfusion h, fun _ => ?_⟩; (conv => whnf)))))
              refine retPure_ret rfl ?_
              refine eqb ?_
              symm
              simp only [V3.short, withinI, List.all_cons, List.all_nil, Bool.and_true, Bool.and_eq_true, decide_eq_true_eq]
              simp at lx gx ly gy lz gz
              omega
            · ((conv => whnf); (repeat (refine ⟨fun _ => ?_, fun h => Bool.noConfusion h⟩; (conv => whnf))))
              refine retPure_ret rfl ?_
              exact eqb (bad v.z (by simp) (by simp at gz; omega))
          · ((conv => whnf); (repeat (first | (refine ⟨fun _ => ?_, fun h => Bool.noConfusion h⟩; (conv => whnf)) | (refine ⟨fun h => Bool.noConfusion h, fun _ => ?_⟩; (conv => whnf)))))
            refine retPure_ret rfl ?_
            exact eqb (bad v.z (by simp) (by simp at lz; omega))
        · ((conv => whnf); (repeat (refine ⟨fun _ => ?_, fun h => Bool.noConfusion h⟩; (conv => whnf))))
          refine retPure_ret rfl ?_
          exact eqb (bad v.y (by simp) (by simp at gy; omega))
      · ((conv => whnf); (repeat (first | (refine ⟨fun _ => ?_, fun h => Bool.noConfusion h⟩; (conv => whnf)) | (refine ⟨fun h => Bool.noConfusion h, fun _ => ?_⟩; (conv => whnf)))))
        refine retPure_ret rfl ?_
        exact eqb (bad v.y (by simp) (by simp at ly; omega))
    · ((conv => whnf); (repeat (refine ⟨fun _ => ?_, fun h => Bool.noConfusion h⟩; (conv => whnf))))
      refine retPure_ret rfl ?_
      exact eqb (bad v.x (by simp) (by simp at gx; omega))
  · ((conv => whnf); (repeat (first | (refine ⟨fun _ => ?_, fun h => Bool.noConfusion h⟩; (conv => whnf)) | (refine ⟨fun h => Bool.noConfusion h, fun _ => ?_⟩; (conv => whnf)))))
    refine retPure_ret rfl ?_
    exact eqb (bad v.x (by simp) (by simp at lx; omega))
end Go.Proofs.YtlbafapmhjfobaaGreatDoor
namespace Go.Proofs.YtlbafapmhjfobaaGreatDoor
set_option maxRecDepth 100000
attribute [local irreducible] LoopW RngW retPure retFresh retBox retTurn
variable {gl : Nat → Option (List AV)}
def V3.mods (v : V3) (d : Int) : Bool := v.x.tmod d == 0 && (v.y.tmod d == 0 && v.z.tmod d == 0)
theorem divided_spec {v : V3} {d : Int} (hv : v.bd 4611686018427387904) (hd : d ≠ 0) : Spec Tryz.prog gl 31 none [(true, v.cs), (false, [.i d])] (.tup [(true, (v.div d).cs), (false, [.b (v.mods d)])]) none := by
  refine spec_plain A31_comp Tryz.func31 Tryz.call31 fol Tryz.ntmps31 Tryz.results31 (argsB_spec rfl) (Nat.le_of_ble_eq_true rfl) (idf_c rfl) ?_
  have q1 := tdiv_bd (b := d) hv.1
  have q2 := tdiv_bd (b := d) hv.2.1
  have q3 := tdiv_bd (b := d) hv.2.2
  have fin : ∀ b : Bool, b = v.mods d → SV.tup [(true, [AV.i (IntKind.i64.wrap (v.x.tdiv d)), .i (IntKind.i64.wrap (v.y.tdiv d)), .i (IntKind.i64.wrap (v.z.tdiv d))]), (false, [.b b])] = .tup [(true, (v.div d).cs), (false, [.b (v.mods d)])] := by
    intro b hb
    rw [hb]
    exact eqt2 (c3 (wr (by omega)) (wr (by omega)) (wr (by omega))) rfl
  ((conv => whnf); (repeat (first | (refine ⟨rfl, ?_⟩; (conv => whnf)) | (refine ⟨Nat.le_of_ble_eq_true rfl, ?_⟩; (conv => whnf)))))
  refine ⟨hd, ?_⟩; ((conv => whnf); (repeat (first | (refine ⟨rfl, ?_⟩; (conv => whnf)) | (refine ⟨Nat.le_of_ble_eq_true rfl, ?_⟩; (conv => whnf)))))
  refine ⟨hd, ?_⟩; ((conv => whnf); (repeat (first | (refine ⟨rfl, ?_⟩; (conv => whnf)) | (refine ⟨Nat.le_of_ble_eq_true rfl, ?_⟩; (conv => whnf)))))
  refine ⟨hd, ?_⟩; ((conv => whnf); (repeat (first | (refine ⟨rfl, ?_⟩; (conv => whnf)) | (refine ⟨Nat.le_of_ble_eq_true rfl, ?_⟩; (conv => whnf)))))
  refine ⟨hd, ?_⟩; ((conv => whnf); (repeat (refine ⟨rfl, ?_⟩; (conv => whnf))))
  cases h1 : v.x.tmod d == 0
  · ((conv => whnf); (repeat (first | (refine ⟨(by kernel_rfl : chk _ _ = true), ?_⟩; (conv => whnf)) | (refine ⟨rfl, ?_⟩; (conv => whnf)) | (refine ⟨Nat.le_of_ble_eq_true rfl, ?_⟩; (conv => whnf)) | (refine ⟨fun h => Bool.noConfusion h, fun _ => ?_⟩; (conv => whnf)))))
    refine retPure_ret rfl ?_
    exact fin false (by simp only [V3.mods, h1, Bool.false_and])
  · ((conv => whnf); (repeat (first | (refine ⟨rfl, ?_⟩; (conv => whnf)) | (refine ⟨Nat.le_of_ble_eq_true rfl, ?_⟩; (conv => whnf)) | (refine ⟨fun _ => ?_, fun h => Bool.noConfusion h⟩; (conv => whnf)))))
    refine ⟨hd, ?_⟩; ((conv => whnf); (repeat (first | (refine ⟨rfl, ?_⟩; (conv => whnf)) | (refine ⟨fun _ => ?_, fun h => Bool.noConfusion h⟩; (conv => whnf)))))
    cases h2 : v.y.tmod d == 0
    · ((conv => whnf); (repeat (first | (refine ⟨(by kernel_rfl : chk _ _ = true), ?_⟩; (conv => whnf)) | (refine ⟨rfl, ?_⟩; (conv => whnf)) | (refine ⟨Nat.le_of_ble_eq_true rfl, ?_⟩; (conv => whnf)) | (refine ⟨fun h => Bool.noConfusion h, fun _ => ?_⟩; (conv => whnf)))))
      refine retPure_ret rfl ?_
      exact fin false (by simp only [V3.mods, h1, h2, Bool.false_and, Bool.true_and])
    · ((conv => whnf); (repeat (first | (refine ⟨rfl, ?_⟩; (conv => whnf)) | (refine ⟨Nat.le_of_ble_eq_true rfl, ?_⟩; (conv => whnf)) | (refine ⟨fun _ => ?_, fun h => Bool.noConfusion h⟩; (conv => whnf)))))
      refine ⟨hd, ?_⟩; ((conv => whnf); (repeat (first | (refine ⟨(by kernel_rfl : chk _ _ = true), ?_⟩; (conv => whnf)) | (refine ⟨rfl, ?_⟩; (conv => whnf)) | (refine ⟨Nat.le_of_ble_eq_true rfl, ?_⟩; (conv => whnf)) | (refine ⟨fun _ => ?_, fun h => Bool.noConfusion h⟩; (conv => whnf)))))
      refine retPure_ret rfl ?_
      exact fin _ (by simp only [V3.mods, h1, h2, Bool.true_and])
end Go.Proofs.YtlbafapmhjfobaaGreatDoor
namespace Go.Proofs.YtlbafapmhjfobaaGreatDoor
set_option maxRecDepth 100000
attribute [local irreducible] LoopW RngW retPure retFresh retBox retTurn
variable {gl : Nat → Option (List AV)}
def gcdF (d : Nat) (xs : List Int) : Nat := xs.foldl (fun g x => Nat.gcd g x.natAbs) d
theorem gcdF_snoc (d : Nat) (xs : List Int) {k : Nat} (hk : k < xs.length) : gcdF d (xs.take (k + 1)) = Nat.gcd (gcdF d (xs.take k)) xs[k].natAbs := by
  rw [List.take_add_one, List.getElem?_eq_getElem hk, gcdF, gcdF, List.foldl_append]
  rfl
theorem gcdF_pos {d : Nat} (hd : 0 < d) : ∀ (xs : List Int), 0 < gcdF d xs := by
  intro xs
  induction xs generalizing d with
  | nil => exact hd
  | cons x xs ih => exact ih (Nat.gcd_pos_of_pos_left _ hd)
def M3.divs (m : M3) (g : Int) : M3 := ⟨m.a.tdiv g, m.b.tdiv g, m.c.tdiv g, m.d.tdiv g, m.e.tdiv g, m.f.tdiv g, m.g.tdiv g, m.h.tdiv g, m.i.tdiv g⟩
theorem c9 {a b c d e f g h i a' b' c' d' e' f' g' h' i' : Int} (h1 : a = a') (h2 : b = b') (h3 : c = c') (h4 : d = d') (h5 : e = e') (h6 : f = f') (h7 : g = g') (h8 : h = h') (h9 : i = i') :
    [AV.i a, .i b, .i c, .i d, .i e, .i f, .i g, .i h, .i i] = [.i a', .i b', .i c', .i d', .i e', .i f', .i g', .i h', .i i'] := by rw [h1, h2, h3, h4, h5, h6, h7, h8, h9]
theorem absmx {x : Int} (h : -4611686018427387904 ≤ x ∧ x ≤ 4611686018427387904) : (if true = true then if IntKind.i64.wrap (0 - x) > x then IntKind.i64.wrap (0 - x) else x else if IntKind.i64.wrap (0 - x) < x then IntKind.i64.wrap (0 - x) else x) = (x.natAbs : Int) := by
  rw [if_pos rfl, wr (by omega)]
  split <;> omega
theorem reduced_spec {m : M3} {d : Nat} (hm : m.bd 1073741824) (hd : 0 < d ∧ d ≤ 1073741824) : Spec Tryz.prog gl 48 none [(true, m.cs), (false, [.i d])] (.tup [(true, (m.divs (gcdF d m.li)).cs), (false, [.i ((d : Int).tdiv (gcdF d m.li))])]) none := by
  refine spec_plain A48_comp Tryz.func48 Tryz.call48 fol Tryz.ntmps48 Tryz.results48 (argsB_spec rfl) (Nat.le_of_ble_eq_true rfl) (idf_c rfl) ?_
  obtain ⟨h1, h2, h3, h4, h5, h6, h7, h8, h9⟩ := hm
  (conv => whnf)
  refine W_loop (fun j : Nat => j ≤ 9)
    (fun j => mk [(1, .c false [.i d]), (2, .c false [.ptr 1 0]), (4, .c false [.ptr 2 0]), (6, .c false [.i (gcdF d (m.li.take j))]), (11, .c false [.i j])] [(1, .box m.cs), (2, .box (List.replicate 9 (.i 0)))] 100)
    (fun j => 9 - j) 0 (by omega) (.to ⟨rfl, rfl, rfl, rfl, rfl, trivial⟩ ⟨rfl, rfl, trivial⟩ rfl rfl) ?_
  intro j hj
  have hcase : j = 9 ∨ j = 0 ∨ j = 1 ∨ j = 2 ∨ j = 3 ∨ j = 4 ∨ j = 5 ∨ j = 6 ∨ j = 7 ∨ j = 8 := by omega
  rcases hcase with rfl | hcase
  · have hg : ((gcdF d (m.li.take 9) : Nat) : Int) ≠ 0 := by have := gcdF_pos hd.1 (m.li.take 9); omega
    ((conv => whnf); (repeat (first | (refine ⟨rfl, ?_⟩; (conv => whnf)) | (refine ⟨fun h => Bool.noConfusion h, fun _ => ?_⟩; (conv => whnf)))))
    refine W_round ?_
    ((conv => whnf); (repeat (first | (refine ⟨rfl, ?_⟩; (conv => whnf)) | (refine ⟨Nat.le_of_ble_eq_true rfl, ?_⟩; (conv => whnf)) | (refine ⟨⟨of_decide_eq_true rfl, of_decide_eq_true rfl⟩, ?_⟩; (conv => whnf)) | (refine ⟨of_decide_eq_true rfl, ?_⟩; (conv => whnf)) | (refine ⟨fun _ => ?_, fun h => Bool.noConfusion h⟩; (conv => whnf)))))
    refine ⟨hg, ?_⟩
    ((conv => whnf); (repeat (first | (refine ⟨(by kernel_rfl : chk _ _ = true), ?_⟩; (conv => whnf)) | (refine ⟨rfl, ?_⟩; (conv => whnf)) | (refine ⟨Nat.le_of_ble_eq_true rfl, ?_⟩; (conv => whnf)) | (refine ⟨⟨of_decide_eq_true rfl, of_decide_eq_true rfl⟩, ?_⟩; (conv => whnf)))))
    refine W_round ?_
    ((conv => whnf); (repeat (first | (refine ⟨rfl, ?_⟩; (conv => whnf)) | (refine ⟨Nat.le_of_ble_eq_true rfl, ?_⟩; (conv => whnf)) | (refine ⟨⟨of_decide_eq_true rfl, of_decide_eq_true rfl⟩, ?_⟩; (conv => whnf)) | (refine ⟨of_decide_eq_true rfl, ?_⟩; (conv => whnf)) | (refine ⟨fun _ => ?_, fun h => Bool.noConfusion h⟩; (conv => whnf)))))
    refine ⟨hg, ?_⟩
    ((conv => whnf); (repeat (first | (refine ⟨(by kernel_rfl : chk _ _ = true), ?_⟩; (conv => whnf)) | (refine ⟨rfl, ?_⟩; (conv => whnf)) | (refine ⟨Nat.le_of_ble_eq_true rfl, ?_⟩; (conv => whnf)) | (refine ⟨⟨of_decide_eq_true rfl, of_decide_eq_true rfl⟩, ?_⟩; (conv => whnf)))))
    refine W_round ?_
    ((conv => whnf); (repeat (first | (refine ⟨rfl, ?_⟩; (conv => whnf)) | (refine ⟨Nat.le_of_ble_eq_true rfl, ?_⟩; (conv => whnf)) | (refine ⟨⟨of_decide_eq_true rfl, of_decide_eq_true rfl⟩, ?_⟩; (conv => whnf)) | (refine ⟨of_decide_eq_true rfl, ?_⟩; (conv => whnf)) | (refine ⟨fun _ => ?_, fun h => Bool.noConfusion h⟩; (conv => whnf)))))
    refine ⟨hg, ?_⟩
    ((conv => whnf); (repeat (first | (refine ⟨(by kernel_rfl : chk _ _ = true), ?_⟩; (conv => whnf)) | (refine ⟨rfl, ?_⟩; (conv => whnf)) | (refine ⟨Nat.le_of_ble_eq_true rfl, ?_⟩; (conv => whnf)) | (refine ⟨⟨of_decide_eq_true rfl, of_decide_eq_true rfl⟩, ?_⟩; (conv => whnf)))))
    refine W_round ?_
    ((conv => whnf); (repeat (first | (refine ⟨rfl, ?_⟩; (conv => whnf)) | (refine ⟨Nat.le_of_ble_eq_true rfl, ?_⟩; (conv => whnf)) | (refine ⟨⟨of_decide_eq_true rfl, of_decide_eq_true rfl⟩, ?_⟩; (conv => whnf)) | (refine ⟨of_decide_eq_true rfl, ?_⟩; (conv => whnf)) | (refine ⟨fun _ => ?_, fun h => Bool.noConfusion h⟩; (conv => whnf)))))
    refine ⟨hg, ?_⟩
    ((conv => whnf); (repeat (first | (refine ⟨(by kernel_rfl : chk _ _ = true), ?_⟩; (conv => whnf)) | (refine ⟨rfl, ?_⟩; (conv => whnf)) | (refine ⟨Nat.le_of_ble_eq_true rfl, ?_⟩; (conv => whnf)) | (refine ⟨⟨of_decide_eq_true rfl, of_decide_eq_true rfl⟩, ?_⟩; (conv => whnf)))))
    refine W_round ?_
    ((conv => whnf); (repeat (first | (refine ⟨rfl, ?_⟩; (conv => whnf)) | (refine ⟨Nat.le_of_ble_eq_true rfl, ?_⟩; (conv => whnf)) | (refine ⟨⟨of_decide_eq_true rfl, of_decide_eq_true rfl⟩, ?_⟩; (conv => whnf)) | (refine ⟨of_decide_eq_true rfl, ?_⟩; (conv => whnf)) | (refine ⟨fun _ => ?_, fun h => Bool.noConfusion h⟩; (conv => whnf)))))
    refine ⟨hg, ?_⟩
    ((conv => whnf); (repeat (first | (refine ⟨(by kernel_rfl : chk _ _ = true), ?_⟩; (conv => whnf)) | (refine ⟨rfl, ?_⟩; (conv => whnf)) | (refine ⟨Nat.le_of_ble_eq_true rfl, ?_⟩; (conv => whnf)) | (refine ⟨⟨of_decide_eq_true rfl, of_decide_eq_true rfl⟩, ?_⟩; (conv => whnf)))))
    refine W_round ?_
    ((conv => whnf); (repeat (first | (refine ⟨rfl, ?_⟩; (conv => whnf)) | (refine ⟨Nat.le_of_ble_eq_true rfl, ?_⟩; (conv => whnf)) | (refine ⟨⟨of_decide_eq_true rfl, of_decide_eq_true rfl⟩, ?_⟩; (conv => whnf)) | (refine ⟨of_decide_eq_true rfl, ?_⟩; (conv => whnf)) | (refine ⟨fun _ => ?_, fun h => Bool.noConfusion h⟩; (conv => whnf)))))
    refine ⟨hg, ?_⟩
    ((conv => whnf); (repeat (first | (refine ⟨(by kernel_rfl : chk _ _ = true), ?_⟩; (conv => whnf)) | (refine ⟨rfl, ?_⟩; (conv => whnf)) | (refine ⟨Nat.le_of_ble_eq_true rfl, ?_⟩; (conv => whnf)) | (refine ⟨⟨of_decide_eq_true rfl, of_decide_eq_true rfl⟩, ?_⟩; (conv => whnf)))))
    refine W_round ?_
    ((conv => whnf); (repeat (first | (refine ⟨rfl, ?_⟩; (conv => whnf)) | (refine ⟨Nat.le_of_ble_eq_true rfl, ?_⟩; (conv => whnf)) | (refine ⟨⟨of_decide_eq_true rfl, of_decide_eq_true rfl⟩, ?_⟩; (conv => whnf)) | (refine ⟨of_decide_eq_true rfl, ?_⟩; (conv => whnf)) | (refine ⟨fun _ => ?_, fun h => Bool.noConfusion h⟩; (conv => whnf)))))
    refine ⟨hg, ?_⟩
    ((conv => whnf); (repeat (first | (refine ⟨(by kernel_rfl : chk _ _ = true), ?_⟩; (conv => whnf)) | (refine ⟨rfl, ?_⟩; (conv => whnf)) | (refine ⟨Nat.le_of_ble_eq_true rfl, ?_⟩; (conv => whnf)) | (refine ⟨⟨of_decide_eq_true rfl, of_decide_eq_true rfl⟩, ?_⟩; (conv => whnf)))))
    refine W_round ?_
    ((conv => whnf); (repeat (first | (refine ⟨rfl, ?_⟩; (conv => whnf)) | (refine ⟨Nat.le_of_ble_eq_true rfl, ?_⟩; (conv => whnf)) | (refine ⟨⟨of_decide_eq_true rfl, of_decide_eq_true rfl⟩, ?_⟩; (conv => whnf)) | (refine ⟨of_decide_eq_true rfl, ?_⟩; (conv => whnf)) | (refine ⟨fun _ => ?_, fun h => Bool.noConfusion h⟩; (conv => whnf)))))
    refine ⟨hg, ?_⟩
    ((conv => whnf); (repeat (first | (refine ⟨(by kernel_rfl : chk _ _ = true), ?_⟩; (conv => whnf)) | (refine ⟨rfl, ?_⟩; (conv => whnf)) | (refine ⟨Nat.le_of_ble_eq_true rfl, ?_⟩; (conv => whnf)) | (refine ⟨⟨of_decide_eq_true rfl, of_decide_eq_true rfl⟩, ?_⟩; (conv => whnf)))))
    refine W_round ?_
    ((conv => whnf); (repeat (first | (refine ⟨rfl, ?_⟩; (conv => whnf)) | (refine ⟨Nat.le_of_ble_eq_true rfl, ?_⟩; (conv => whnf)) | (refine ⟨⟨of_decide_eq_true rfl, of_decide_eq_true rfl⟩, ?_⟩; (conv => whnf)) | (refine ⟨of_decide_eq_true rfl, ?_⟩; (conv => whnf)) | (refine ⟨fun _ => ?_, fun h => Bool.noConfusion h⟩; (conv => whnf)))))
    refine ⟨hg, ?_⟩
    ((conv => whnf); (repeat (first | (refine ⟨(by kernel_rfl : chk _ _ = true), ?_⟩; (conv => whnf)) | (refine ⟨rfl, ?_⟩; (conv => whnf)) | (refine ⟨Nat.le_of_ble_eq_true rfl, ?_⟩; (conv => whnf)) | (refine ⟨⟨of_decide_eq_true rfl, of_decide_eq_true rfl⟩, ?_⟩; (conv => whnf)))))
    refine W_round ?_
    ((conv => whnf); (repeat (first | (refine ⟨rfl, ?_⟩; (conv => whnf)) | (refine ⟨Nat.le_of_ble_eq_true rfl, ?_⟩; (conv => whnf)) | (refine ⟨fun h => Bool.noConfusion h, fun _ => ?_⟩; (conv => whnf)))))
    refine ⟨hg, ?_⟩
    ((conv => whnf); (repeat (first | (refine ⟨(by kernel_rfl : chk _ _ = true), ?_⟩; (conv => whnf)) | (refine ⟨rfl, ?_⟩; (conv => whnf)) | (refine ⟨Nat.le_of_ble_eq_true rfl, ?_⟩; (conv => whnf)))))
    refine retPure_ret rfl ?_
    have q (x : Int) (hx : -1073741824 ≤ x ∧ x ≤ 1073741824) : IntKind.i64.wrap (x.tdiv ((gcdF d (m.li.take 9) : Nat) : Int)) = x.tdiv ((gcdF d (m.li.take 9) : Nat) : Int) := wr (by have := tdiv_bd (b := ((gcdF d (m.li.take 9) : Nat) : Int)) hx; omega)
    exact eqt2 (c9 (q _ h1) (q _ h2) (q _ h3) (q _ h4) (q _ h5) (q _ h6) (q _ h7) (q _ h8) (q _ h9)) (c1 (q _ (by omega)))
  rcases hcase with rfl | rfl | rfl | rfl | rfl | rfl | rfl | rfl | rfl
  · ((conv => whnf); (repeat (first | (refine ⟨(by kernel_rfl : chk _ _ = true), ?_⟩; (conv => whnf)) | (refine ⟨rfl, ?_⟩; (conv => whnf)) | (refine ⟨Nat.le_of_ble_eq_true rfl, ?_⟩; (conv => whnf)) | (refine ⟨⟨of_decide_eq_true rfl, of_decide_eq_true rfl⟩, ?_⟩; (conv => whnf)) | (refine ⟨of_decide_eq_true rfl, ?_⟩; (conv => whnf)) | (refine ⟨fun _ => ?_, fun h => Bool.noConfusion h⟩; (conv => whnf)))))
    refine W_loop (fun q : Nat × Nat => Nat.gcd q.1 q.2 = gcdF d (m.li.take 1))
      (fun q => mk [(1, .c false [.i d]), (2, .c false [.ptr 1 0]), (4, .c false [.ptr 2 0]), (6, .c false [.i q.1]), (8, .c false [.i q.2]), (11, .c false [.i ((0 : Nat) : Int)])] [(1, .box m.cs), (2, .box (List.replicate 9 (.i 0)))] 200)
      (fun q => q.2) (gcdF d (m.li.take 0), m.a.natAbs) (gcdF_snoc d m.li (k := 0) (Nat.le_of_ble_eq_true rfl)).symm (.to ⟨rfl, rfl, rfl, rfl, eq1 (absmx (by omega)), rfl, trivial⟩ ⟨rfl, rfl, trivial⟩ rfl rfl) ?_
    rintro ⟨g, n⟩ hg
    ((conv => whnf); (repeat (refine ⟨rfl, ?_⟩; (conv => whnf))))
    refine ⟨fun hn => ?_, fun hn => ?_⟩
    · have hn' : 0 < n := by simpa using hn
      ((conv => whnf); (repeat (refine ⟨rfl, ?_⟩; (conv => whnf))))
      refine ⟨by omega, ?_⟩
      ((conv => whnf); (repeat (refine ⟨(by kernel_rfl : chk _ _ = true), ?_⟩; (conv => whnf))))
      refine ⟨(n, g % n), ?_, Nat.mod_lt _ hn', .to ⟨rfl, rfl, rfl, rfl, rfl, rfl, trivial⟩ ⟨rfl, rfl, trivial⟩ rfl rfl⟩
      rw [← hg, Nat.gcd_comm g n, Nat.gcd_rec n g, Nat.gcd_comm]
    · have hn' : n = 0 := by simpa using hn
      subst hn'
      ((conv => whnf); (repeat (refine ⟨rfl, ?_⟩; (conv => whnf))))
      refine ⟨1, by omega, by omega, .to ⟨rfl, rfl, rfl, eq1 ?_, rfl, trivial⟩ ⟨rfl, rfl, trivial⟩ rfl rfl⟩
      rw [← hg, Nat.gcd_zero_right]
  · ((conv => whnf); (repeat (first | (refine ⟨(by kernel_rfl : chk _ _ = true), ?_⟩; (conv => whnf)) | (refine ⟨rfl, ?_⟩; (conv => whnf)) | (refine ⟨Nat.le_of_ble_eq_true rfl, ?_⟩; (conv => whnf)) | (refine ⟨⟨of_decide_eq_true rfl, of_decide_eq_true rfl⟩, ?_⟩; (conv => whnf)) | (refine ⟨of_decide_eq_true rfl, ?_⟩; (conv => whnf)) | (refine ⟨fun _ => ?_, fun h => Bool.noConfusion h⟩; (conv => whnf)))))
    refine W_loop (fun q : Nat × Nat => Nat.gcd q.1 q.2 = gcdF d (m.li.take 2))
      (fun q => mk [(1, .c false [.i d]), (2, .c false [.ptr 1 0]), (4, .c false [.ptr 2 0]), (6, .c false [.i q.1]), (8, .c false [.i q.2]), (11, .c false [.i ((1 : Nat) : Int)])] [(1, .box m.cs), (2, .box (List.replicate 9 (.i 0)))] 200)
      (fun q => q.2) (gcdF d (m.li.take 1), m.b.natAbs) (gcdF_snoc d m.li (k := 1) (Nat.le_of_ble_eq_true rfl)).symm (.to ⟨rfl, rfl, rfl, rfl, eq1 (absmx (by omega)), rfl, trivial⟩ ⟨rfl, rfl, trivial⟩ rfl rfl) ?_
    rintro ⟨g, n⟩ hg
    ((conv => whnf); (repeat (refine ⟨rfl, ?_⟩; (conv => whnf))))
    refine ⟨fun hn => ?_, fun hn => ?_⟩
    · have hn' : 0 < n := by simpa using hn
      ((conv => whnf); (repeat (refine ⟨rfl, ?_⟩; (conv => whnf))))
      refine ⟨by omega, ?_⟩
      ((conv => whnf); (repeat (refine ⟨(by kernel_rfl : chk _ _ = true), ?_⟩; (conv => whnf))))
      refine ⟨(n, g % n), ?_, Nat.mod_lt _ hn', .to ⟨rfl, rfl, rfl, rfl, rfl, rfl, trivial⟩ ⟨rfl, rfl, trivial⟩ rfl rfl⟩
      rw [← hg, Nat.gcd_comm g n, Nat.gcd_rec n g, Nat.gcd_comm]
    · have hn' : n = 0 := by simpa using hn
      subst hn'
      ((conv => whnf); (repeat (refine ⟨rfl, ?_⟩; (conv => whnf))))
      refine ⟨2, by omega, by omega, .to ⟨rfl, rfl, rfl, eq1 ?_, rfl, trivial⟩ ⟨rfl, rfl, trivial⟩ rfl rfl⟩
      rw [← hg, Nat.gcd_zero_right]
  · ((conv => whnf); (repeat (first | (refine ⟨(by kernel_rfl : chk _ _ = true), ?_⟩; (conv => whnf)) | (refine ⟨rfl, ?_⟩; (conv => whnf)) | (refine ⟨Nat.le_of_ble_eq_true rfl, ?_⟩; (conv => whnf)) | (refine ⟨⟨of_decide_eq_true rfl, of_decide_eq_true rfl⟩, ?_⟩; (conv => whnf)) | (refine ⟨of_decide_eq_true rfl, ?_⟩; (conv => whnf)) | (refine ⟨fun _ => ?_, fun h => Bool.noConfusion h⟩; (conv => whnf)))))
    refine W_loop (fun q : Nat × Nat => Nat.gcd q.1 q.2 = gcdF d (m.li.take 3))
      (fun q => mk [(1, .c false [.i d]), (2, .c false [.ptr 1 0]), (4, .c false [.ptr 2 0]), (6, .c false [.i q.1]), (8, .c false [.i q.2]), (11, .c false [.i ((2 : Nat) : Int)])] [(1, .box m.cs), (2, .box (List.replicate 9 (.i 0)))] 200)
      (fun q => q.2) (gcdF d (m.li.take 2), m.c.natAbs) (gcdF_snoc d m.li (k := 2) (Nat.le_of_ble_eq_true rfl)).symm (.to ⟨rfl, rfl, rfl, rfl, eq1 (absmx (by omega)), rfl, trivial⟩ ⟨rfl, rfl, trivial⟩ rfl rfl) ?_
    rintro ⟨g, n⟩ hg
    ((conv => whnf); (repeat (refine ⟨rfl, ?_⟩; (conv => whnf))))
    refine ⟨fun hn => ?_, fun hn => ?_⟩
    · have hn' : 0 < n := by simpa using hn
      ((conv => whnf); (repeat (refine ⟨rfl, ?_⟩; (conv => whnf))))
      refine ⟨by omega, ?_⟩
      ((conv => whnf); (repeat (refine ⟨(by kernel_rfl : chk _ _ = true), ?_⟩; (conv => whnf))))
      refine ⟨(n, g % n), ?_, Nat.mod_lt _ hn', .to ⟨rfl, rfl, rfl, rfl, rfl, rfl, trivial⟩ ⟨rfl, rfl, trivial⟩ rfl rfl⟩
      rw [← hg, Nat.gcd_comm g n, Nat.gcd_rec n g, Nat.gcd_comm]
    · have hn' : n = 0 := by simpa using hn
      subst hn'
      ((conv => whnf); (repeat (refine ⟨rfl, ?_⟩; (conv => whnf))))
      refine ⟨3, by omega, by omega, .to ⟨rfl, rfl, rfl, eq1 ?_, rfl, trivial⟩ ⟨rfl, rfl, trivial⟩ rfl rfl⟩
      rw [← hg, Nat.gcd_zero_right]
  · ((conv => whnf); (repeat (first | (refine ⟨(by kernel_rfl : chk _ _ = true), ?_⟩; (conv => whnf)) | (refine ⟨rfl, ?_⟩; (conv => whnf)) | (refine ⟨Nat.le_of_ble_eq_true rfl, ?_⟩; (conv => whnf)) | (refine ⟨⟨of_decide_eq_true rfl, of_decide_eq_true rfl⟩, ?_⟩; (conv => whnf)) | (refine ⟨of_decide_eq_true rfl, ?_⟩; (conv => whnf)) | (refine ⟨fun _ => ?_, fun h => Bool.noConfusion h⟩; (conv => whnf)))))
    refine W_loop (fun q : Nat × Nat => Nat.gcd q.1 q.2 = gcdF d (m.li.take 4))
      (fun q => mk [(1, .c false [.i d]), (2, .c false [.ptr 1 0]), (4, .c false [.ptr 2 0]), (6, .c false [.i q.1]), (8, .c false [.i q.2]), (11, .c false [.i ((3 : Nat) : Int)])] [(1, .box m.cs), (2, .box (List.replicate 9 (.i 0)))] 200)
      (fun q => q.2) (gcdF d (m.li.take 3), m.d.natAbs) (gcdF_snoc d m.li (k := 3) (Nat.le_of_ble_eq_true rfl)).symm (.to ⟨rfl, rfl, rfl, rfl, eq1 (absmx (by omega)), rfl, trivial⟩ ⟨rfl, rfl, trivial⟩ rfl rfl) ?_
    rintro ⟨g, n⟩ hg
    ((conv => whnf); (repeat (refine ⟨rfl, ?_⟩; (conv => whnf))))
    refine ⟨fun hn => ?_, fun hn => ?_⟩
    · have hn' : 0 < n := by simpa using hn
      ((conv => whnf); (repeat (refine ⟨rfl, ?_⟩; (conv => whnf))))
      refine ⟨by omega, ?_⟩
      ((conv => whnf); (repeat (refine ⟨(by kernel_rfl : chk _ _ = true), ?_⟩; (conv => whnf))))
      refine ⟨(n, g % n), ?_, Nat.mod_lt _ hn', .to ⟨rfl, rfl, rfl, rfl, rfl, rfl, trivial⟩ ⟨rfl, rfl, trivial⟩ rfl rfl⟩
      rw [← hg, Nat.gcd_comm g n, Nat.gcd_rec n g, Nat.gcd_comm]
    · have hn' : n = 0 := by simpa using hn
      subst hn'
      ((conv => whnf); (repeat (refine ⟨rfl, ?_⟩; (conv => whnf))))
      refine ⟨4, by omega, by omega, .to ⟨rfl, rfl, rfl, eq1 ?_, rfl, trivial⟩ ⟨rfl, rfl, trivial⟩ rfl rfl⟩
      rw [← hg, Nat.gcd_zero_right]
  · ((conv => whnf); (repeat (first | (refine ⟨(by kernel_rfl : chk _ _ = true), ?_⟩; (conv => whnf)) | (refine ⟨rfl, ?_⟩; (conv => whnf)) | (refine ⟨Nat.le_of_ble_eq_true rfl, ?_⟩; (conv => whnf)) | (refine ⟨⟨of_decide_eq_true rfl, of_decide_eq_true rfl⟩, ?_⟩; (conv => whnf)) | (refine ⟨of_decide_eq_true rfl, ?_⟩; (conv => whnf)) | (refine ⟨fun _ => ?_, fun h => Bool.noConfusion h⟩; (conv => whnf)))))
    refine W_loop (fun q : Nat × Nat => Nat.gcd q.1 q.2 = gcdF d (m.li.take 5))
      (fun q => mk [(1, .c false [.i d]), (2, .c false [.ptr 1 0]), (4, .c false [.ptr 2 0]), (6, .c false [.i q.1]), (8, .c false [.i q.2]), (11, .c false [.i ((4 : Nat) : Int)])] [(1, .box m.cs), (2, .box (List.replicate 9 (.i 0)))] 200)
      (fun q => q.2) (gcdF d (m.li.take 4), m.e.natAbs) (gcdF_snoc d m.li (k := 4) (Nat.le_of_ble_eq_true rfl)).symm (.to ⟨rfl, rfl, rfl, rfl, eq1 (absmx (by omega)), rfl, trivial⟩ ⟨rfl, rfl, trivial⟩ rfl rfl) ?_
    rintro ⟨g, n⟩ hg
    ((conv => whnf); (repeat (refine ⟨rfl, ?_⟩; (conv => whnf))))
    refine ⟨fun hn => ?_, fun hn => ?_⟩
    · have hn' : 0 < n := by simpa using hn
      ((conv => whnf); (repeat (refine ⟨rfl, ?_⟩; (conv => whnf))))
      refine ⟨by omega, ?_⟩
      ((conv => whnf); (repeat (refine ⟨(by kernel_rfl : chk _ _ = true), ?_⟩; (conv => whnf))))
      refine ⟨(n, g % n), ?_, Nat.mod_lt _ hn', .to ⟨rfl, rfl, rfl, rfl, rfl, rfl, trivial⟩ ⟨rfl, rfl, trivial⟩ rfl rfl⟩
      rw [← hg, Nat.gcd_comm g n, Nat.gcd_rec n g, Nat.gcd_comm]
    · have hn' : n = 0 := by simpa using hn
      subst hn'
      ((conv => whnf); (repeat (refine ⟨rfl, ?_⟩; (conv => whnf))))
      refine ⟨5, by omega, by omega, .to ⟨rfl, rfl, rfl, eq1 ?_, rfl, trivial⟩ ⟨rfl, rfl, trivial⟩ rfl rfl⟩
      rw [← hg, Nat.gcd_zero_right]
  · ((conv => whnf); (repeat (first | (refine ⟨(by kernel_rfl : chk _ _ = true), ?_⟩; (conv => whnf)) | (refine ⟨rfl, ?_⟩; (conv => whnf)) | (refine ⟨Nat.le_of_ble_eq_true rfl, ?_⟩; (conv => whnf)) | (refine ⟨⟨of_decide_eq_true rfl, of_decide_eq_true rfl⟩, ?_⟩; (conv => whnf)) | (refine ⟨of_decide_eq_true rfl, ?_⟩; (conv => whnf)) | (refine ⟨fun _ => ?_, fun h => Bool.noConfusion h⟩; (conv => whnf)))))
    refine W_loop (fun q : Nat × Nat => Nat.gcd q.1 q.2 = gcdF d (m.li.take 6))
      (fun q => mk [(1, .c false [.i d]), (2, .c false [.ptr 1 0]), (4, .c false [.ptr 2 0]), (6, .c false [.i q.1]), (8, .c false [.i q.2]), (11, .c false [.i ((5 : Nat) : Int)])] [(1, .box m.cs), (2, .box (List.replicate 9 (.i 0)))] 200)
      (fun q => q.2) (gcdF d (m.li.take 5), m.f.natAbs) (gcdF_snoc d m.li (k := 5) (Nat.le_of_ble_eq_true rfl)).symm (.to ⟨rfl, rfl, rfl, rfl, eq1 (absmx (by omega)), rfl, trivial⟩ ⟨rfl, rfl, trivial⟩ rfl rfl) ?_
    rintro ⟨g, n⟩ hg
    ((conv => whnf); (repeat (refine ⟨rfl, ?_⟩; (conv => whnf))))
    refine ⟨fun hn => ?_, fun hn => ?_⟩
    · have hn' : 0 < n := by simpa using hn
      ((conv => whnf); (repeat (refine ⟨rfl, ?_⟩; (conv => whnf))))
      refine ⟨by omega, ?_⟩
      ((conv => whnf); (repeat (refine ⟨(by kernel_rfl : chk _ _ = true), ?_⟩; (conv => whnf))))
      refine ⟨(n, g % n), ?_, Nat.mod_lt _ hn', .to ⟨rfl, rfl, rfl, rfl, rfl, rfl, trivial⟩ ⟨rfl, rfl, trivial⟩ rfl rfl⟩
      rw [← hg, Nat.gcd_comm g n, Nat.gcd_rec n g, Nat.gcd_comm]
    · have hn' : n = 0 := by simpa using hn
      subst hn'
      ((conv => whnf); (repeat (refine ⟨rfl, ?_⟩; (conv => whnf))))
      refine ⟨6, by omega, by omega, .to ⟨rfl, rfl, rfl, eq1 ?_, rfl, trivial⟩ ⟨rfl, rfl, trivial⟩ rfl rfl⟩
      rw [← hg, Nat.gcd_zero_right]
  · ((conv => whnf); (repeat (first | (refine ⟨(by kernel_rfl : chk _ _ = true), ?_⟩; (conv => whnf)) | (refine ⟨rfl, ?_⟩; (conv => whnf)) | (refine ⟨Nat.le_of_ble_eq_true rfl, ?_⟩; (conv => whnf)) | (refine ⟨⟨of_decide_eq_true rfl, of_decide_eq_true rfl⟩, ?_⟩; (conv => whnf)) | (refine ⟨of_decide_eq_true rfl, ?_⟩; (conv => whnf)) | (refine ⟨fun _ => ?_, fun h => Bool.noConfusion h⟩; (conv => whnf)))))
    refine W_loop (fun q : Nat × Nat => Nat.gcd q.1 q.2 = gcdF d (m.li.take 7))
      (fun q => mk [(1, .c false [.i d]), (2, .c false [.ptr 1 0]), (4, .c false [.ptr 2 0]), (6, .c false [.i q.1]), (8, .c false [.i q.2]), (11, .c false [.i ((6 : Nat) : Int)])] [(1, .box m.cs), (2, .box (List.replicate 9 (.i 0)))] 200)
      (fun q => q.2) (gcdF d (m.li.take 6), m.g.natAbs) (gcdF_snoc d m.li (k := 6) (Nat.le_of_ble_eq_true rfl)).symm (.to ⟨rfl, rfl, rfl, rfl, eq1 (absmx (by omega)), rfl, trivial⟩ ⟨rfl, rfl, trivial⟩ rfl rfl) ?_
    rintro ⟨g, n⟩ hg
    ((conv => whnf); (repeat (refine ⟨rfl, ?_⟩; (conv => whnf))))
    refine ⟨fun hn => ?_, fun hn => ?_⟩
    · have hn' : 0 < n := by simpa using hn
      ((conv => whnf); (repeat (refine ⟨rfl, ?_⟩; (conv => whnf))))
      refine ⟨by omega, ?_⟩
      ((conv => whnf); (repeat (refine ⟨(by kernel_rfl : chk _ _ = true), ?_⟩; (conv => whnf))))
      refine ⟨(n, g % n), ?_, Nat.mod_lt _ hn', .to ⟨rfl, rfl, rfl, rfl, rfl, rfl, trivial⟩ ⟨rfl, rfl, trivial⟩ rfl rfl⟩
      rw [← hg, Nat.gcd_comm g n, Nat.gcd_rec n g, Nat.gcd_comm]
    · have hn' : n = 0 := by simpa using hn
      subst hn'
      ((conv => whnf); (repeat (refine ⟨rfl, ?_⟩; (conv => whnf))))
      refine ⟨7, by omega, by omega, .to ⟨rfl, rfl, rfl, eq1 ?_, rfl, trivial⟩ ⟨rfl, rfl, trivial⟩ rfl rfl⟩
      rw [← hg, Nat.gcd_zero_right]
  · ((conv => whnf); (repeat (first | (refine ⟨(by kernel_rfl : chk _ _ = true), ?_⟩; (conv => whnf)) | (refine ⟨rfl, ?_⟩; (conv => whnf)) | (refine ⟨Nat.le_of_ble_eq_true rfl, ?_⟩; (conv => whnf)) | (refine ⟨⟨of_decide_eq_true rfl, of_decide_eq_true rfl⟩, ?_⟩; (conv => whnf)) | (refine ⟨of_decide_eq_true rfl, ?_⟩; (conv => whnf)) | (refine ⟨fun _ => ?_, fun h => Bool.noConfusion h⟩; (conv => whnf)))))
    refine W_loop (fun q : Nat × Nat => Nat.gcd q.1 q.2 = gcdF d (m.li.take 8))
      (fun q => mk [(1, .c false [.i d]), (2, .c false [.ptr 1 0]), (4, .c false [.ptr 2 0]), (6, .c false [.i q.1]), (8, .c false [.i q.2]), (11, .c false [.i ((7 : Nat) : Int)])] [(1, .box m.cs), (2, .box (List.replicate 9 (.i 0)))] 200)
      (fun q => q.2) (gcdF d (m.li.take 7), m.h.natAbs) (gcdF_snoc d m.li (k := 7) (Nat.le_of_ble_eq_true rfl)).symm (.to ⟨rfl, rfl, rfl, rfl, eq1 (absmx (by omega)), rfl, trivial⟩ ⟨rfl, rfl, trivial⟩ rfl rfl) ?_
    rintro ⟨g, n⟩ hg
    ((conv => whnf); (repeat (refine ⟨rfl, ?_⟩; (conv => whnf))))
    refine ⟨fun hn => ?_, fun hn => ?_⟩
    · have hn' : 0 < n := by simpa using hn
      ((conv => whnf); (repeat (refine ⟨rfl, ?_⟩; (conv => whnf))))
      refine ⟨by omega, ?_⟩
      ((conv => whnf); (repeat (refine ⟨(by kernel_rfl : chk _ _ = true), ?_⟩; (conv => whnf))))
      refine ⟨(n, g % n), ?_, Nat.mod_lt _ hn', .to ⟨rfl, rfl, rfl, rfl, rfl, rfl, trivial⟩ ⟨rfl, rfl, trivial⟩ rfl rfl⟩
      rw [← hg, Nat.gcd_comm g n, Nat.gcd_rec n g, Nat.gcd_comm]
    · have hn' : n = 0 := by simpa using hn
      subst hn'
      ((conv => whnf); (repeat (refine ⟨rfl, ?_⟩; (conv => whnf))))
      refine ⟨8, by omega, by omega, .to ⟨rfl, rfl, rfl, eq1 ?_, rfl, trivial⟩ ⟨rfl, rfl, trivial⟩ rfl rfl⟩
      rw [← hg, Nat.gcd_zero_right]
  · ((conv => whnf); (repeat (first | (refine ⟨(by kernel_rfl : chk _ _ = true), ?_⟩; (conv => whnf)) | (refine ⟨rfl, ?_⟩; (conv => whnf)) | (refine ⟨Nat.le_of_ble_eq_true rfl, ?_⟩; (conv => whnf)) | (refine ⟨⟨of_decide_eq_true rfl, of_decide_eq_true rfl⟩, ?_⟩; (conv => whnf)) | (refine ⟨of_decide_eq_true rfl, ?_⟩; (conv => whnf)) | (refine ⟨fun _ => ?_, fun h => Bool.noConfusion h⟩; (conv => whnf)))))
    refine W_loop (fun q : Nat × Nat => Nat.gcd q.1 q.2 = gcdF d (m.li.take 9))
      (fun q => mk [(1, .c false [.i d]), (2, .c false [.ptr 1 0]), (4, .c false [.ptr 2 0]), (6, .c false [.i q.1]), (8, .c false [.i q.2]), (11, .c false [.i ((8 : Nat) : Int)])] [(1, .box m.cs), (2, .box (List.replicate 9 (.i 0)))] 200)
      (fun q => q.2) (gcdF d (m.li.take 8), m.i.natAbs) (gcdF_snoc d m.li (k := 8) (Nat.le_of_ble_eq_true rfl)).symm (.to ⟨rfl, rfl, rfl, rfl, eq1 (absmx (by omega)), rfl, trivial⟩ ⟨rfl, rfl, trivial⟩ rfl rfl) ?_
    rintro ⟨g, n⟩ hg
    ((conv => whnf); (repeat (refine ⟨rfl, ?_⟩; (conv => whnf))))
    refine ⟨fun hn => ?_, fun hn => ?_⟩
    · have hn' : 0 < n := by simpa using hn
      ((conv => whnf); (repeat (refine ⟨rfl, ?_⟩; (conv => whnf))))
      refine ⟨by omega, ?_⟩
      ((conv => whnf); (repeat (refine ⟨(by kernel_rfl : chk _ _ = true), ?_⟩; (conv => whnf))))
      refine ⟨(n, g % n), ?_, Nat.mod_lt _ hn', .to ⟨rfl, rfl, rfl, rfl, rfl, rfl, trivial⟩ ⟨rfl, rfl, trivial⟩ rfl rfl⟩
      rw [← hg, Nat.gcd_comm g n, Nat.gcd_rec n g, Nat.gcd_comm]
    · have hn' : n = 0 := by simpa using hn
      subst hn'
      ((conv => whnf); (repeat (refine ⟨rfl, ?_⟩; (conv => whnf))))
      refine ⟨9, by omega, by omega, .to ⟨rfl, rfl, rfl, eq1 ?_, rfl, trivial⟩ ⟨rfl, rfl, trivial⟩ rfl rfl⟩
      rw [← hg, Nat.gcd_zero_right]
end Go.Proofs.YtlbafapmhjfobaaGreatDoor
