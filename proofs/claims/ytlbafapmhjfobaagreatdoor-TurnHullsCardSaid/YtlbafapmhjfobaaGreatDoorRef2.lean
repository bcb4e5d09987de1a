/-
  Contracts: the reference's rotations: validity, After; its ordered lists of points.
-/
import Derived.Test.YtlbafapmhjfobaaGreatDoorRef1
set_option linter.unusedVariables false
set_option linter.unusedSimpArgs false
namespace Go.Proofs.YtlbafapmhjfobaaGreatDoor
set_option maxRecDepth 100000
attribute [local irreducible] LoopW LoopY RngW retPure retFresh retBox retTurn
variable {gl : Nat → Option (List AV)}
theorem tabs_spec {n : Int} (h : -4611686018427387904 ≤ n ∧ n ≤ 4611686018427387904) : Spec Tryz.prog gl 91 none [(false, [.i n])] (.c false [.i n.natAbs]) none := by
  refine spec_plain A91_comp Tryz.func91 Tryz.call91 fol Tryz.ntmps91 Tryz.results91 (argsB_spec rfl) (Nat.le_of_ble_eq_true rfl) (idf_c rfl) ?_
  (conv => whnf)
  refine retPure_ret rfl ?_
  exact eq1 (absmx h)
theorem tgcd_spec (a b : Nat) : Spec Tryz.prog gl 92 none [(false, [.i a]), (false, [.i b])] (.c false [.i (Nat.gcd a b)]) none := by
  refine spec_plain A92_comp Tryz.func92 Tryz.call92 fol Tryz.ntmps92 Tryz.results92 (argsB_spec rfl) (Nat.le_of_ble_eq_true rfl) (idf_c rfl) ?_
  (conv => whnf)
  refine W_loop (fun q : Nat × Nat => Nat.gcd q.1 q.2 = Nat.gcd a b)
    (fun q => mk [(0, .c false [.i q.1]), (1, .c false [.i q.2]), (4, .c false [.i 0])] [] 100)
    (fun q => q.2) (a, b) rfl (.to ⟨rfl, rfl, rfl, trivial⟩ trivial rfl rfl) ?_
  rintro ⟨g, n⟩ hg
  ((conv => whnf); (repeat (refine ⟨rfl, ?_⟩; (conv => whnf))))
  refine ⟨fun hn => ?_, fun hn => ?_⟩
  · have hn' : 0 < n := by simpa using hn
    ((conv => whnf); (repeat (refine ⟨rfl, ?_⟩; (conv => whnf))))
    refine ⟨by omega, ?_⟩
    ((conv => whnf); (repeat (refine ⟨(by kernel_rfl : chk _ _ = true), ?_⟩; (conv => whnf))))
    refine ⟨(n, g % n), ?_, Nat.mod_lt _ hn', .to ⟨rfl, rfl, rfl, trivial⟩ trivial rfl rfl⟩
    rw [← hg, Nat.gcd_comm g n, Nat.gcd_rec n g, Nat.gcd_comm]
  · have hn' : n = 0 := by simpa using hn
    subst hn'
    (conv => whnf)
    refine retPure_ret rfl ?_
    rw [← hg, Nat.gcd_zero_right]; rfl
theorem trow0_spec (m : M3) : Spec Tryz.prog gl 56 none [(true, m.cs), (false, [.i 0])] (.c true m.r0.cs) none := by
  refine spec_plain A56_comp Tryz.func56 Tryz.call56 fol Tryz.ntmps56 Tryz.results56 (argsB_spec rfl) (Nat.le_of_ble_eq_true rfl) (idf_c rfl) ?_
  ((conv => whnf); (repeat (first | (refine ⟨(by kernel_rfl : chk _ _ = true), ?_⟩; (conv => whnf)) | (refine ⟨rfl, ?_⟩; (conv => whnf)) | (refine ⟨Nat.le_of_ble_eq_true rfl, ?_⟩; (conv => whnf)) | (refine ⟨⟨of_decide_eq_true rfl, of_decide_eq_true rfl⟩, ?_⟩; (conv => whnf)))))
  exact retPure_ret rfl rfl
theorem trow1_spec (m : M3) : Spec Tryz.prog gl 56 none [(true, m.cs), (false, [.i 1])] (.c true m.r1.cs) none := by
  refine spec_plain A56_comp Tryz.func56 Tryz.call56 fol Tryz.ntmps56 Tryz.results56 (argsB_spec rfl) (Nat.le_of_ble_eq_true rfl) (idf_c rfl) ?_
  ((conv => whnf); (repeat (first | (refine ⟨(by kernel_rfl : chk _ _ = true), ?_⟩; (conv => whnf)) | (refine ⟨rfl, ?_⟩; (conv => whnf)) | (refine ⟨Nat.le_of_ble_eq_true rfl, ?_⟩; (conv => whnf)) | (refine ⟨⟨of_decide_eq_true rfl, of_decide_eq_true rfl⟩, ?_⟩; (conv => whnf)))))
  exact retPure_ret rfl rfl
theorem trow2_spec (m : M3) : Spec Tryz.prog gl 56 none [(true, m.cs), (false, [.i 2])] (.c true m.r2.cs) none := by
  refine spec_plain A56_comp Tryz.func56 Tryz.call56 fol Tryz.ntmps56 Tryz.results56 (argsB_spec rfl) (Nat.le_of_ble_eq_true rfl) (idf_c rfl) ?_
  ((conv => whnf); (repeat (first | (refine ⟨(by kernel_rfl : chk _ _ = true), ?_⟩; (conv => whnf)) | (refine ⟨rfl, ?_⟩; (conv => whnf)) | (refine ⟨Nat.le_of_ble_eq_true rfl, ?_⟩; (conv => whnf)) | (refine ⟨⟨of_decide_eq_true rfl, of_decide_eq_true rfl⟩, ?_⟩; (conv => whnf)))))
  exact retPure_ret rfl rfl
theorem tcol0_spec (m : M3) : Spec Tryz.prog gl 61 none [(true, m.cs), (false, [.i 0])] (.c true m.c0.cs) none := by
  refine spec_plain A61_comp Tryz.func61 Tryz.call61 fol Tryz.ntmps61 Tryz.results61 (argsB_spec rfl) (Nat.le_of_ble_eq_true rfl) (idf_c rfl) ?_
  ((conv => whnf); (repeat (first | (refine ⟨(by kernel_rfl : chk _ _ = true), ?_⟩; (conv => whnf)) | (refine ⟨rfl, ?_⟩; (conv => whnf)) | (refine ⟨Nat.le_of_ble_eq_true rfl, ?_⟩; (conv => whnf)) | (refine ⟨⟨of_decide_eq_true rfl, of_decide_eq_true rfl⟩, ?_⟩; (conv => whnf)))))
  exact retPure_ret rfl rfl
theorem tcol1_spec (m : M3) : Spec Tryz.prog gl 61 none [(true, m.cs), (false, [.i 1])] (.c true m.c1.cs) none := by
  refine spec_plain A61_comp Tryz.func61 Tryz.call61 fol Tryz.ntmps61 Tryz.results61 (argsB_spec rfl) (Nat.le_of_ble_eq_true rfl) (idf_c rfl) ?_
  ((conv => whnf); (repeat (first | (refine ⟨(by kernel_rfl : chk _ _ = true), ?_⟩; (conv => whnf)) | (refine ⟨rfl, ?_⟩; (conv => whnf)) | (refine ⟨Nat.le_of_ble_eq_true rfl, ?_⟩; (conv => whnf)) | (refine ⟨⟨of_decide_eq_true rfl, of_decide_eq_true rfl⟩, ?_⟩; (conv => whnf)))))
  exact retPure_ret rfl rfl
theorem tcol2_spec (m : M3) : Spec Tryz.prog gl 61 none [(true, m.cs), (false, [.i 2])] (.c true m.c2.cs) none := by
  refine spec_plain A61_comp Tryz.func61 Tryz.call61 fol Tryz.ntmps61 Tryz.results61 (argsB_spec rfl) (Nat.le_of_ble_eq_true rfl) (idf_c rfl) ?_
  ((conv => whnf); (repeat (first | (refine ⟨(by kernel_rfl : chk _ _ = true), ?_⟩; (conv => whnf)) | (refine ⟨rfl, ?_⟩; (conv => whnf)) | (refine ⟨Nat.le_of_ble_eq_true rfl, ?_⟩; (conv => whnf)) | (refine ⟨⟨of_decide_eq_true rfl, of_decide_eq_true rfl⟩, ?_⟩; (conv => whnf)))))
  exact retPure_ret rfl rfl
theorem tdivided_spec {v : V3} {d : Int} (hv : v.bd 4611686018427387904) (hd : d ≠ 0) (hm : v.mods d = true) : Spec Tryz.prog gl 63 none [(true, v.cs), (false, [.i d])] (.tup [(true, (v.div d).cs), (false, [.b true])]) none := by
  refine spec_plain A63_comp Tryz.func63 Tryz.call63 fol Tryz.ntmps63 Tryz.results63 (argsB_spec rfl) (Nat.le_of_ble_eq_true rfl) (idf_c rfl) ?_
  have q1 := tdiv_bd (b := d) hv.1
  have q2 := tdiv_bd (b := d) hv.2.1
  have q3 := tdiv_bd (b := d) hv.2.2
  have fin : SV.tup [(true, [AV.i (IntKind.i64.wrap (v.x.tdiv d)), .i (IntKind.i64.wrap (v.y.tdiv d)), .i (IntKind.i64.wrap (v.z.tdiv d))]), (false, [.b true])] = .tup [(true, (v.div d).cs), (false, [.b true])] := 
    eqt2 (c3 (wr (by omega)) (wr (by omega)) (wr (by omega))) rfl
  simp only [V3.mods, Bool.and_eq_true] at hm
  obtain ⟨g1, g2, g3⟩ := hm
  have h1 : (v.x.tmod d != 0) = false := by simpa using g1
  have h2 : (v.y.tmod d != 0) = false := by simpa using g2
  have h3 : (v.z.tmod d != 0) = false := by simpa using g3
  ((conv => whnf); (repeat (first | (refine ⟨rfl, ?_⟩; (conv => whnf)) | (refine ⟨Nat.le_of_ble_eq_true rfl, ?_⟩; (conv => whnf)))))
  refine ⟨hd, ?_⟩; ((conv => whnf); (repeat (refine ⟨rfl, ?_⟩; (conv => whnf))))
  rw [h1]; ((conv => whnf); (repeat (first | (refine ⟨rfl, ?_⟩; (conv => whnf)) | (refine ⟨Nat.le_of_ble_eq_true rfl, ?_⟩; (conv => whnf)) | (refine ⟨fun _ => ?_, fun h => Bool.noConfusion h⟩; (conv => whnf)))))
  refine ⟨hd, ?_⟩; ((conv => whnf); (repeat (first | (refine ⟨rfl, ?_⟩; (conv => whnf)) | (refine ⟨fun _ => ?_, fun h => Bool.noConfusion h⟩; (conv => whnf)) | (refine ⟨fun h => Bool.noConfusion h, fun _ => ?_⟩; (conv => whnf)))))
  rw [h2]; ((conv => whnf); (repeat (first | (refine ⟨rfl, ?_⟩; (conv => whnf)) | (refine ⟨Nat.le_of_ble_eq_true rfl, ?_⟩; (conv => whnf)) | (refine ⟨fun _ => ?_, fun h => Bool.noConfusion h⟩; (conv => whnf)))))
  refine ⟨hd, ?_⟩; ((conv => whnf); (repeat (first | (refine ⟨rfl, ?_⟩; (conv => whnf)) | (refine ⟨fun _ => ?_, fun h => Bool.noConfusion h⟩; (conv => whnf)) | (refine ⟨fun h => Bool.noConfusion h, fun _ => ?_⟩; (conv => whnf)))))
  rw [h3]; ((conv => whnf); (repeat (first | (refine ⟨rfl, ?_⟩; (conv => whnf)) | (refine ⟨Nat.le_of_ble_eq_true rfl, ?_⟩; (conv => whnf)) | (refine ⟨fun h => Bool.noConfusion h, fun _ => ?_⟩; (conv => whnf)))))
  refine ⟨hd, ?_⟩; ((conv => whnf); (repeat (first | (refine ⟨rfl, ?_⟩; (conv => whnf)) | (refine ⟨Nat.le_of_ble_eq_true rfl, ?_⟩; (conv => whnf)))))
  refine ⟨hd, ?_⟩; ((conv => whnf); (repeat (first | (refine ⟨rfl, ?_⟩; (conv => whnf)) | (refine ⟨Nat.le_of_ble_eq_true rfl, ?_⟩; (conv => whnf)))))
  refine ⟨hd, ?_⟩; ((conv => whnf); (repeat (first | (refine ⟨(by kernel_rfl : chk _ _ = true), ?_⟩; (conv => whnf)) | (refine ⟨rfl, ?_⟩; (conv => whnf)) | (refine ⟨Nat.le_of_ble_eq_true rfl, ?_⟩; (conv => whnf)))))
  refine retPure_ret rfl ?_
  exact fin
theorem twithin_spec {v : V3} (h : v.bd 96) : Spec Tryz.prog gl 90 none [(true, v.cs)] (.c false [.b true]) none := by
  refine spec_plain A90_comp Tryz.func90 Tryz.call90 fol Tryz.ntmps90 Tryz.results90 (argsB_spec rfl) (Nat.le_of_ble_eq_true rfl) (idf_c rfl) ?_
  unfold V3.bd at h
  ((conv => whnf); (repeat (refine ⟨Nat.le_of_ble_eq_true rfl, ?_⟩; (conv => whnf))))
  have a1 : decide (((v.x.natAbs : Nat) : Int) ≤ 96) = true := decide_eq_true (by omega)
  have a2 : decide (((v.y.natAbs : Nat) : Int) ≤ 96) = true := decide_eq_true (by omega)
  have a3 : decide (((v.z.natAbs : Nat) : Int) ≤ 96) = true := decide_eq_true (by omega)
  have b1 : decide (-96 ≤ v.x) = true := decide_eq_true (by omega)
  have b2 : decide (-96 ≤ v.y) = true := decide_eq_true (by omega)
  have b3 : decide (-96 ≤ v.z) = true := decide_eq_true (by omega)
  refine call_pure (tabs_spec (n := v.x) (by omega)) rfl rfl rfl ?_
  ((conv => whnf); (repeat (refine ⟨rfl, ?_⟩; (conv => whnf))))
  rw [a1]; ((conv => whnf); (repeat (first | (refine ⟨Nat.le_of_ble_eq_true rfl, ?_⟩; (conv => whnf)) | (refine ⟨fun _ => ?_, fun h => Bool.noConfusion h⟩; (conv => whnf)))))
  refine call_pure (tabs_spec (n := v.y) (by omega)) rfl rfl rfl ?_
  ((conv => whnf); (repeat (first | (refine ⟨rfl, ?_⟩; (conv => whnf)) | (refine ⟨fun _ => ?_, fun h => Bool.noConfusion h⟩; (conv => whnf)))))
  rw [a2]; ((conv => whnf); (repeat (first | (refine ⟨Nat.le_of_ble_eq_true rfl, ?_⟩; (conv => whnf)) | (refine ⟨fun _ => ?_, fun h => Bool.noConfusion h⟩; (conv => whnf)))))
  refine call_pure (tabs_spec (n := v.z) (by omega)) rfl rfl rfl ?_
  ((conv => whnf); (repeat (first | (refine ⟨rfl, ?_⟩; (conv => whnf)) | (refine ⟨fun _ => ?_, fun h => Bool.noConfusion h⟩; (conv => whnf)))))
  rw [a3]; ((conv => whnf); (repeat (first | (refine ⟨rfl, ?_⟩; (conv => whnf)) | (refine ⟨Nat.le_of_ble_eq_true rfl, ?_⟩; (conv => whnf)) | (refine ⟨fun _ => ?_, fun h => Bool.noConfusion h⟩; (conv => whnf)))))
  rw [b1]; ((conv => whnf); (repeat (first | (refine ⟨rfl, ?_⟩; (conv => whnf)) | (refine ⟨Nat.le_of_ble_eq_true rfl, ?_⟩; (conv => whnf)) | (refine ⟨fun _ => ?_, fun h => Bool.noConfusion h⟩; (conv => whnf)))))
  rw [b2]; ((conv => whnf); (repeat (first | (refine ⟨rfl, ?_⟩; (conv => whnf)) | (refine ⟨Nat.le_of_ble_eq_true rfl, ?_⟩; (conv => whnf)) | (refine ⟨fun _ => ?_, fun h => Bool.noConfusion h⟩; (conv => whnf)))))
  rw [b3]; (conv => whnf)
  exact retPure_ret rfl rfl
theorem ttimes_spec {m : M3} {v : V3} (hm : m.bd 1073741824) (hv : v.bd 1073741824) : Spec Tryz.prog gl 64 none [(true, m.cs), (true, v.cs)] (.c true (m.of v).cs) none := by
  refine spec_plain A64_comp Tryz.func64 Tryz.call64 fol Tryz.ntmps64 Tryz.results64 (argsB_spec rfl) (Nat.le_of_ble_eq_true rfl) (idf_c rfl) ?_
  obtain ⟨r0, r1, r2⟩ := hm.r
  ((conv => whnf); (repeat (refine ⟨Nat.le_of_ble_eq_true rfl, ?_⟩; (conv => whnf))))
  refine call_pure (trow0_spec m) rfl rfl rfl ?_
  ((conv => whnf); (repeat (refine ⟨Nat.le_of_ble_eq_true rfl, ?_⟩; (conv => whnf))))
  refine call_pure (rdot_spec r0 hv) rfl rfl rfl ?_
  ((conv => whnf); (repeat (refine ⟨Nat.le_of_ble_eq_true rfl, ?_⟩; (conv => whnf))))
  refine call_pure (trow1_spec m) rfl rfl rfl ?_
  ((conv => whnf); (repeat (refine ⟨Nat.le_of_ble_eq_true rfl, ?_⟩; (conv => whnf))))
  refine call_pure (rdot_spec r1 hv) rfl rfl rfl ?_
  ((conv => whnf); (repeat (refine ⟨Nat.le_of_ble_eq_true rfl, ?_⟩; (conv => whnf))))
  refine call_pure (trow2_spec m) rfl rfl rfl ?_
  ((conv => whnf); (repeat (refine ⟨Nat.le_of_ble_eq_true rfl, ?_⟩; (conv => whnf))))
  refine call_pure (rdot_spec r2 hv) rfl rfl rfl ?_
  ((conv => whnf); (repeat (first | (refine ⟨(by kernel_rfl : chk _ _ = true), ?_⟩; (conv => whnf)) | (refine ⟨rfl, ?_⟩; (conv => whnf)) | (refine ⟨Nat.le_of_ble_eq_true rfl, ?_⟩; (conv => whnf)))))
  exact retPure_ret rfl rfl
end Go.Proofs.YtlbafapmhjfobaaGreatDoor
namespace Go.Proofs.YtlbafapmhjfobaaGreatDoor
set_option maxRecDepth 100000
attribute [local irreducible] LoopW LoopY RngW retPure retFresh retBox retTurn
variable {gl : Nat → Option (List AV)}
theorem tcommon_spec {t : Tn} (hd : -1073741824 ≤ t.d ∧ t.d ≤ 1073741824) (hm : t.m.bd 1073741824) : Spec Tryz.prog gl 62 none [(true, t.cs)] (.c false [.i (gcdF t.d.natAbs t.m.li)]) none := by
  refine spec_plain A62_comp Tryz.func62 Tryz.call62 fol Tryz.ntmps62 Tryz.results62 (argsB_spec rfl) (Nat.le_of_ble_eq_true rfl) (idf_c rfl) ?_
  obtain ⟨h1, h2, h3, h4, h5, h6, h7, h8, h9⟩ := hm
  ((conv => whnf); (repeat (refine ⟨Nat.le_of_ble_eq_true rfl, ?_⟩; (conv => whnf))))
  refine call_pure (tabs_spec (n := t.d) (by omega)) rfl rfl rfl ?_
  (conv => whnf)
  refine W_round ?_
  ((conv => whnf); (repeat (first | (refine ⟨rfl, ?_⟩; (conv => whnf)) | (refine ⟨fun _ => ?_, fun h => Bool.noConfusion h⟩; (conv => whnf)))))
  refine W_round ?_
  ((conv => whnf); (repeat (first | (refine ⟨rfl, ?_⟩; (conv => whnf)) | (refine ⟨Nat.le_of_ble_eq_true rfl, ?_⟩; (conv => whnf)) | (refine ⟨⟨of_decide_eq_true rfl, of_decide_eq_true rfl⟩, ?_⟩; (conv => whnf)) | (refine ⟨fun _ => ?_, fun h => Bool.noConfusion h⟩; (conv => whnf)))))
  refine call_pure (tabs_spec (n := t.m.a) (by omega)) rfl rfl rfl ?_
  (conv => whnf)
  refine call_pure (tgcd_spec _ _) rfl rfl rfl ?_
  ((conv => whnf); (repeat (refine ⟨rfl, ?_⟩; (conv => whnf))))
  refine W_round ?_
  ((conv => whnf); (repeat (first | (refine ⟨rfl, ?_⟩; (conv => whnf)) | (refine ⟨Nat.le_of_ble_eq_true rfl, ?_⟩; (conv => whnf)) | (refine ⟨⟨of_decide_eq_true rfl, of_decide_eq_true rfl⟩, ?_⟩; (conv => whnf)) | (refine ⟨fun _ => ?_, fun h => Bool.noConfusion h⟩; (conv => whnf)))))
  refine call_pure (tabs_spec (n := t.m.b) (by omega)) rfl rfl rfl ?_
  (conv => whnf)
  refine call_pure (tgcd_spec _ _) rfl rfl rfl ?_
  ((conv => whnf); (repeat (refine ⟨rfl, ?_⟩; (conv => whnf))))
  refine W_round ?_
  ((conv => whnf); (repeat (first | (refine ⟨rfl, ?_⟩; (conv => whnf)) | (refine ⟨Nat.le_of_ble_eq_true rfl, ?_⟩; (conv => whnf)) | (refine ⟨⟨of_decide_eq_true rfl, of_decide_eq_true rfl⟩, ?_⟩; (conv => whnf)) | (refine ⟨fun _ => ?_, fun h => Bool.noConfusion h⟩; (conv => whnf)))))
  refine call_pure (tabs_spec (n := t.m.c) (by omega)) rfl rfl rfl ?_
  (conv => whnf)
  refine call_pure (tgcd_spec _ _) rfl rfl rfl ?_
  ((conv => whnf); (repeat (refine ⟨rfl, ?_⟩; (conv => whnf))))
  refine W_round ?_
  ((conv => whnf); (repeat (first | (refine ⟨rfl, ?_⟩; (conv => whnf)) | (refine ⟨fun h => Bool.noConfusion h, fun _ => ?_⟩; (conv => whnf)))))
  refine W_round ?_
  ((conv => whnf); (repeat (first | (refine ⟨rfl, ?_⟩; (conv => whnf)) | (refine ⟨fun _ => ?_, fun h => Bool.noConfusion h⟩; (conv => whnf)))))
  refine W_round ?_
  ((conv => whnf); (repeat (first | (refine ⟨rfl, ?_⟩; (conv => whnf)) | (refine ⟨Nat.le_of_ble_eq_true rfl, ?_⟩; (conv => whnf)) | (refine ⟨⟨of_decide_eq_true rfl, of_decide_eq_true rfl⟩, ?_⟩; (conv => whnf)) | (refine ⟨fun _ => ?_, fun h => Bool.noConfusion h⟩; (conv => whnf)))))
  refine call_pure (tabs_spec (n := t.m.d) (by omega)) rfl rfl rfl ?_
  (conv => whnf)
  refine call_pure (tgcd_spec _ _) rfl rfl rfl ?_
  ((conv => whnf); (repeat (refine ⟨rfl, ?_⟩; (conv => whnf))))
  refine W_round ?_
  ((conv => whnf); (repeat (first | (refine ⟨rfl, ?_⟩; (conv => whnf)) | (refine ⟨Nat.le_of_ble_eq_true rfl, ?_⟩; (conv => whnf)) | (refine ⟨⟨of_decide_eq_true rfl, of_decide_eq_true rfl⟩, ?_⟩; (conv => whnf)) | (refine ⟨fun _ => ?_, fun h => Bool.noConfusion h⟩; (conv => whnf)))))
  refine call_pure (tabs_spec (n := t.m.e) (by omega)) rfl rfl rfl ?_
  (conv => whnf)
  refine call_pure (tgcd_spec _ _) rfl rfl rfl ?_
  ((conv => whnf); (repeat (refine ⟨rfl, ?_⟩; (conv => whnf))))
  refine W_round ?_
  ((conv => whnf); (repeat (first | (refine ⟨rfl, ?_⟩; (conv => whnf)) | (refine ⟨Nat.le_of_ble_eq_true rfl, ?_⟩; (conv => whnf)) | (refine ⟨⟨of_decide_eq_true rfl, of_decide_eq_true rfl⟩, ?_⟩; (conv => whnf)) | (refine ⟨fun _ => ?_, fun h => Bool.noConfusion h⟩; (conv => whnf)))))
  refine call_pure (tabs_spec (n := t.m.f) (by omega)) rfl rfl rfl ?_
  (conv => whnf)
  refine call_pure (tgcd_spec _ _) rfl rfl rfl ?_
  ((conv => whnf); (repeat (refine ⟨rfl, ?_⟩; (conv => whnf))))
  refine W_round ?_
  ((conv => whnf); (repeat (first | (refine ⟨rfl, ?_⟩; (conv => whnf)) | (refine ⟨fun h => Bool.noConfusion h, fun _ => ?_⟩; (conv => whnf)))))
  refine W_round ?_
  ((conv => whnf); (repeat (first | (refine ⟨rfl, ?_⟩; (conv => whnf)) | (refine ⟨fun _ => ?_, fun h => Bool.noConfusion h⟩; (conv => whnf)))))
  refine W_round ?_
  ((conv => whnf); (repeat (first | (refine ⟨rfl, ?_⟩; (conv => whnf)) | (refine ⟨Nat.le_of_ble_eq_true rfl, ?_⟩; (conv => whnf)) | (refine ⟨⟨of_decide_eq_true rfl, of_decide_eq_true rfl⟩, ?_⟩; (conv => whnf)) | (refine ⟨fun _ => ?_, fun h => Bool.noConfusion h⟩; (conv => whnf)))))
  refine call_pure (tabs_spec (n := t.m.g) (by omega)) rfl rfl rfl ?_
  (conv => whnf)
  refine call_pure (tgcd_spec _ _) rfl rfl rfl ?_
  ((conv => whnf); (repeat (refine ⟨rfl, ?_⟩; (conv => whnf))))
  refine W_round ?_
  ((conv => whnf); (repeat (first | (refine ⟨rfl, ?_⟩; (conv => whnf)) | (refine ⟨Nat.le_of_ble_eq_true rfl, ?_⟩; (conv => whnf)) | (refine ⟨⟨of_decide_eq_true rfl, of_decide_eq_true rfl⟩, ?_⟩; (conv => whnf)) | (refine ⟨fun _ => ?_, fun h => Bool.noConfusion h⟩; (conv => whnf)))))
  refine call_pure (tabs_spec (n := t.m.h) (by omega)) rfl rfl rfl ?_
  (conv => whnf)
  refine call_pure (tgcd_spec _ _) rfl rfl rfl ?_
  ((conv => whnf); (repeat (refine ⟨rfl, ?_⟩; (conv => whnf))))
  refine W_round ?_
  ((conv => whnf); (repeat (first | (refine ⟨rfl, ?_⟩; (conv => whnf)) | (refine ⟨Nat.le_of_ble_eq_true rfl, ?_⟩; (conv => whnf)) | (refine ⟨⟨of_decide_eq_true rfl, of_decide_eq_true rfl⟩, ?_⟩; (conv => whnf)) | (refine ⟨fun _ => ?_, fun h => Bool.noConfusion h⟩; (conv => whnf)))))
  refine call_pure (tabs_spec (n := t.m.i) (by omega)) rfl rfl rfl ?_
  (conv => whnf)
  refine call_pure (tgcd_spec _ _) rfl rfl rfl ?_
  ((conv => whnf); (repeat (refine ⟨rfl, ?_⟩; (conv => whnf))))
  refine W_round ?_
  ((conv => whnf); (repeat (first | (refine ⟨rfl, ?_⟩; (conv => whnf)) | (refine ⟨fun h => Bool.noConfusion h, fun _ => ?_⟩; (conv => whnf)))))
  refine W_round ?_
  ((conv => whnf); (repeat (first | (refine ⟨rfl, ?_⟩; (conv => whnf)) | (refine ⟨fun h => Bool.noConfusion h, fun _ => ?_⟩; (conv => whnf)))))
  exact retPure_ret rfl rfl
theorem tsmall_spec {t : Tn} (hd : 0 ≤ t.d ∧ t.d ≤ 1073741824) (hm : t.m.bd t.d) : Spec Tryz.prog gl 89 none [(true, t.cs)] (.c false [.b true]) none := by
  refine spec_plain A89_comp Tryz.func89 Tryz.call89 fol Tryz.ntmps89 Tryz.results89 (argsB_spec rfl) (Nat.le_of_ble_eq_true rfl) (idf_c rfl) ?_
  obtain ⟨h1, h2, h3, h4, h5, h6, h7, h8, h9⟩ := hm
  have hw : IntKind.i64.wrap (0 - t.d) = 0 - t.d := wr (by omega)
  have la : decide (t.m.a < IntKind.i64.wrap (0 - t.d)) = false := by rw [hw]; exact decide_eq_false (by omega)
  have ua : decide (t.d < t.m.a) = false := decide_eq_false (by omega)
  have lb : decide (t.m.b < IntKind.i64.wrap (0 - t.d)) = false := by rw [hw]; exact decide_eq_false (by omega)
  have ub : decide (t.d < t.m.b) = false := decide_eq_false (by omega)
  have lc : decide (t.m.c < IntKind.i64.wrap (0 - t.d)) = false := by rw [hw]; exact decide_eq_false (by omega)
  have uc : decide (t.d < t.m.c) = false := decide_eq_false (by omega)
  have ld : decide (t.m.d < IntKind.i64.wrap (0 - t.d)) = false := by rw [hw]; exact decide_eq_false (by omega)
  have ud : decide (t.d < t.m.d) = false := decide_eq_false (by omega)
  have le : decide (t.m.e < IntKind.i64.wrap (0 - t.d)) = false := by rw [hw]; exact decide_eq_false (by omega)
  have ue : decide (t.d < t.m.e) = false := decide_eq_false (by omega)
  have lf : decide (t.m.f < IntKind.i64.wrap (0 - t.d)) = false := by rw [hw]; exact decide_eq_false (by omega)
  have uf : decide (t.d < t.m.f) = false := decide_eq_false (by omega)
  have lg : decide (t.m.g < IntKind.i64.wrap (0 - t.d)) = false := by rw [hw]; exact decide_eq_false (by omega)
  have ug : decide (t.d < t.m.g) = false := decide_eq_false (by omega)
  have lh : decide (t.m.h < IntKind.i64.wrap (0 - t.d)) = false := by rw [hw]; exact decide_eq_false (by omega)
  have uh : decide (t.d < t.m.h) = false := decide_eq_false (by omega)
  have li : decide (t.m.i < IntKind.i64.wrap (0 - t.d)) = false := by rw [hw]; exact decide_eq_false (by omega)
  have ui : decide (t.d < t.m.i) = false := decide_eq_false (by omega)
  (conv => whnf)
  refine W_round ?_
  ((conv => whnf); (repeat (first | (refine ⟨rfl, ?_⟩; (conv => whnf)) | (refine ⟨fun _ => ?_, fun h => Bool.noConfusion h⟩; (conv => whnf)))))
  refine W_round ?_
  ((conv => whnf); (repeat (first | (refine ⟨rfl, ?_⟩; (conv => whnf)) | (refine ⟨Nat.le_of_ble_eq_true rfl, ?_⟩; (conv => whnf)) | (refine ⟨⟨of_decide_eq_true rfl, of_decide_eq_true rfl⟩, ?_⟩; (conv => whnf)) | (refine ⟨fun _ => ?_, fun h => Bool.noConfusion h⟩; (conv => whnf)))))
  rw [la]; ((conv => whnf); (repeat (first | (refine ⟨(by kernel_rfl : chk _ _ = true), ?_⟩; (conv => whnf)) | (refine ⟨rfl, ?_⟩; (conv => whnf)) | (refine ⟨Nat.le_of_ble_eq_true rfl, ?_⟩; (conv => whnf)) | (refine ⟨⟨of_decide_eq_true rfl, of_decide_eq_true rfl⟩, ?_⟩; (conv => whnf)) | (refine ⟨fun _ => ?_, fun h => Bool.noConfusion h⟩; (conv => whnf)) | (refine ⟨fun h => Bool.noConfusion h, fun _ => ?_⟩; (conv => whnf)))))
  rw [ua]; ((conv => whnf); (repeat (first | (refine ⟨rfl, ?_⟩; (conv => whnf)) | (refine ⟨fun h => Bool.noConfusion h, fun _ => ?_⟩; (conv => whnf)))))
  refine W_round ?_
  ((conv => whnf); (repeat (first | (refine ⟨rfl, ?_⟩; (conv => whnf)) | (refine ⟨Nat.le_of_ble_eq_true rfl, ?_⟩; (conv => whnf)) | (refine ⟨⟨of_decide_eq_true rfl, of_decide_eq_true rfl⟩, ?_⟩; (conv => whnf)) | (refine ⟨fun _ => ?_, fun h => Bool.noConfusion h⟩; (conv => whnf)))))
  rw [lb]; ((conv => whnf); (repeat (first | (refine ⟨(by kernel_rfl : chk _ _ = true), ?_⟩; (conv => whnf)) | (refine ⟨rfl, ?_⟩; (conv => whnf)) | (refine ⟨Nat.le_of_ble_eq_true rfl, ?_⟩; (conv => whnf)) | (refine ⟨⟨of_decide_eq_true rfl, of_decide_eq_true rfl⟩, ?_⟩; (conv => whnf)) | (refine ⟨fun _ => ?_, fun h => Bool.noConfusion h⟩; (conv => whnf)) | (refine ⟨fun h => Bool.noConfusion h, fun _ => ?_⟩; (conv => whnf)))))
  rw [ub]; ((conv => whnf); (repeat (first | (refine ⟨rfl, ?_⟩; (conv => whnf)) | (refine ⟨fun h => Bool.noConfusion h, fun _ => ?_⟩; (conv => whnf)))))
  refine W_round ?_
  ((conv => whnf); (repeat (first | (refine ⟨rfl, ?_⟩; (conv => whnf)) | (refine ⟨Nat.le_of_ble_eq_true rfl, ?_⟩; (conv => whnf)) | (refine ⟨⟨of_decide_eq_true rfl, of_decide_eq_true rfl⟩, ?_⟩; (conv => whnf)) | (refine ⟨fun _ => ?_, fun h => Bool.noConfusion h⟩; (conv => whnf)))))
  rw [lc]; ((conv => whnf); (repeat (first | (refine ⟨(by kernel_rfl : chk _ _ = true), ?_⟩; (conv => whnf)) | (refine ⟨rfl, ?_⟩; (conv => whnf)) | (refine ⟨Nat.le_of_ble_eq_true rfl, ?_⟩; (conv => whnf)) | (refine ⟨⟨of_decide_eq_true rfl, of_decide_eq_true rfl⟩, ?_⟩; (conv => whnf)) | (refine ⟨fun _ => ?_, fun h => Bool.noConfusion h⟩; (conv => whnf)) | (refine ⟨fun h => Bool.noConfusion h, fun _ => ?_⟩; (conv => whnf)))))
  rw [uc]; ((conv => whnf); (repeat (first | (refine ⟨rfl, ?_⟩; (conv => whnf)) | (refine ⟨fun h => Bool.noConfusion h, fun _ => ?_⟩; (conv => whnf)))))
  refine W_round ?_
  ((conv => whnf); (repeat (first | (refine ⟨rfl, ?_⟩; (conv => whnf)) | (refine ⟨fun h => Bool.noConfusion h, fun _ => ?_⟩; (conv => whnf)))))
  refine W_round ?_
  ((conv => whnf); (repeat (first | (refine ⟨rfl, ?_⟩; (conv => whnf)) | (refine ⟨fun _ => ?_, fun h => Bool.noConfusion h⟩; (conv => whnf)))))
  refine W_round ?_
  ((conv => whnf); (repeat (first | (refine ⟨rfl, ?_⟩; (conv => whnf)) | (refine ⟨Nat.le_of_ble_eq_true rfl, ?_⟩; (conv => whnf)) | (refine ⟨⟨of_decide_eq_true rfl, of_decide_eq_true rfl⟩, ?_⟩; (conv => whnf)) | (refine ⟨fun _ => ?_, fun h => Bool.noConfusion h⟩; (conv => whnf)))))
  rw [ld]; ((conv => whnf); (repeat (first | (refine ⟨(by kernel_rfl : chk _ _ = true), ?_⟩; (conv => whnf)) | (refine ⟨rfl, ?_⟩; (conv => whnf)) | (refine ⟨Nat.le_of_ble_eq_true rfl, ?_⟩; (conv => whnf)) | (refine ⟨⟨of_decide_eq_true rfl, of_decide_eq_true rfl⟩, ?_⟩; (conv => whnf)) | (refine ⟨fun _ => ?_, fun h => Bool.noConfusion h⟩; (conv => whnf)) | (refine ⟨fun h => Bool.noConfusion h, fun _ => ?_⟩; (conv => whnf)))))
  rw [ud]; ((conv => whnf); (repeat (first | (refine ⟨rfl, ?_⟩; (conv => whnf)) | (refine ⟨fun h => Bool.noConfusion h, fun _ => ?_⟩; (conv => whnf)))))
  refine W_round ?_
  ((conv => whnf); (repeat (first | (refine ⟨rfl, ?_⟩; (conv => whnf)) | (refine ⟨Nat.le_of_ble_eq_true rfl, ?_⟩; (conv => whnf)) | (refine ⟨⟨of_decide_eq_true rfl, of_decide_eq_true rfl⟩, ?_⟩; (conv => whnf)) | (refine ⟨fun _ => ?_, fun h => Bool.noConfusion h⟩; (conv => whnf)))))
  rw [le]; ((conv => whnf); (repeat (first | (refine ⟨(by kernel_rfl : chk _ _ = true), ?_⟩; (conv => whnf)) | (refine ⟨rfl, ?_⟩; (conv => whnf)) | (refine ⟨Nat.le_of_ble_eq_true rfl, ?_⟩; (conv => whnf)) | (refine ⟨⟨of_decide_eq_true rfl, of_decide_eq_true rfl⟩, ?_⟩; (conv => whnf)) | (refine ⟨fun _ => ?_, fun h => Bool.noConfusion h⟩; (conv => whnf)) | (refine ⟨fun h => Bool.noConfusion h, fun _ => ?_⟩; (conv => whnf)))))
  rw [ue]; ((conv => whnf); (repeat (first | (refine ⟨rfl, ?_⟩; (conv => whnf)) | (refine ⟨fun h => Bool.noConfusion h, fun _ => ?_⟩; (conv => whnf)))))
  refine W_round ?_
  ((conv => whnf); (repeat (first | (refine ⟨rfl, ?_⟩; (conv => whnf)) | (refine ⟨Nat.le_of_ble_eq_true rfl, ?_⟩; (conv => whnf)) | (refine ⟨⟨of_decide_eq_true rfl, of_decide_eq_true rfl⟩, ?_⟩; (conv => whnf)) | (refine ⟨fun _ => ?_, fun h => Bool.noConfusion h⟩; (conv => whnf)))))
  rw [lf]; ((conv => whnf); (repeat (first | (refine ⟨(by kernel_rfl : chk _ _ = true), ?_⟩; (conv => whnf)) | (refine ⟨rfl, ?_⟩; (conv => whnf)) | (refine ⟨Nat.le_of_ble_eq_true rfl, ?_⟩; (conv => whnf)) | (refine ⟨⟨of_decide_eq_true rfl, of_decide_eq_true rfl⟩, ?_⟩; (conv => whnf)) | (refine ⟨fun _ => ?_, fun h => Bool.noConfusion h⟩; (conv => whnf)) | (refine ⟨fun h => Bool.noConfusion h, fun _ => ?_⟩; (conv => whnf)))))
  rw [uf]; ((conv => whnf); (repeat (first | (refine ⟨rfl, ?_⟩; (conv => whnf)) | (refine ⟨fun h => Bool.noConfusion h, fun _ => ?_⟩; (conv => whnf)))))
  refine W_round ?_
  ((conv => whnf); (repeat (first | (refine ⟨rfl, ?_⟩; (conv => whnf)) | (refine ⟨fun h => Bool.noConfusion h, fun _ => ?_⟩; (conv => whnf)))))
  refine W_round ?_
  ((conv => whnf); (repeat (first | (refine ⟨rfl, ?_⟩; (conv => whnf)) | (refine ⟨fun _ => ?_, fun h => Bool.noConfusion h⟩; (conv => whnf)))))
  refine W_round ?_
  ((conv => whnf); (repeat (first | (refine ⟨rfl, ?_⟩; (conv => whnf)) | (refine ⟨Nat.le_of_ble_eq_true rfl, ?_⟩; (conv => whnf)) | (refine ⟨⟨of_decide_eq_true rfl, of_decide_eq_true rfl⟩, ?_⟩; (conv => whnf)) | (refine ⟨fun _ => ?_, fun h => Bool.noConfusion h⟩; (conv => whnf)))))
  rw [lg]; ((conv => whnf); (repeat (first | (refine ⟨(by kernel_rfl : chk _ _ = true), ?_⟩; (conv => whnf)) | (refine ⟨rfl, ?_⟩; (conv => whnf)) | (refine ⟨Nat.le_of_ble_eq_true rfl, ?_⟩; (conv => whnf)) | (refine ⟨⟨of_decide_eq_true rfl, of_decide_eq_true rfl⟩, ?_⟩; (conv => whnf)) | (refine ⟨fun _ => ?_, fun h => Bool.noConfusion h⟩; (conv => whnf)) | (refine ⟨fun h => Bool.noConfusion h, fun _ => ?_⟩; (conv => whnf)))))
  rw [ug]; ((conv => whnf); (repeat (first | (refine ⟨rfl, ?_⟩; (conv => whnf)) | (refine ⟨fun h => Bool.noConfusion h, fun _ => ?_⟩; (conv => whnf)))))
  refine W_round ?_
  ((conv => whnf); (repeat (first | (refine ⟨rfl, ?_⟩; (conv => whnf)) | (refine ⟨Nat.le_of_ble_eq_true rfl, ?_⟩; (conv => whnf)) | (refine ⟨⟨of_decide_eq_true rfl, of_decide_eq_true rfl⟩, ?_⟩; (conv => whnf)) | (refine ⟨fun _ => ?_, fun h => Bool.noConfusion h⟩; (conv => whnf)))))
  rw [lh]; ((conv => whnf); (repeat (first | (refine ⟨(by kernel_rfl : chk _ _ = true), ?_⟩; (conv => whnf)) | (refine ⟨rfl, ?_⟩; (conv => whnf)) | (refine ⟨Nat.le_of_ble_eq_true rfl, ?_⟩; (conv => whnf)) | (refine ⟨⟨of_decide_eq_true rfl, of_decide_eq_true rfl⟩, ?_⟩; (conv => whnf)) | (refine ⟨fun _ => ?_, fun h => Bool.noConfusion h⟩; (conv => whnf)) | (refine ⟨fun h => Bool.noConfusion h, fun _ => ?_⟩; (conv => whnf)))))
  rw [uh]; ((conv => whnf); (repeat (first | (refine ⟨rfl, ?_⟩; (conv => whnf)) | (refine ⟨fun h => Bool.noConfusion h, fun _ => ?_⟩; (conv => whnf)))))
  refine W_round ?_
  ((conv => whnf); (repeat (first | (refine ⟨rfl, ?_⟩; (conv => whnf)) | (refine ⟨Nat.le_of_ble_eq_true rfl, ?_⟩; (conv => whnf)) | (refine ⟨⟨of_decide_eq_true rfl, of_decide_eq_true rfl⟩, ?_⟩; (conv => whnf)) | (refine ⟨fun _ => ?_, fun h => Bool.noConfusion h⟩; (conv => whnf)))))
  rw [li]; ((conv => whnf); (repeat (first | (refine ⟨(by kernel_rfl : chk _ _ = true), ?_⟩; (conv => whnf)) | (refine ⟨rfl, ?_⟩; (conv => whnf)) | (refine ⟨Nat.le_of_ble_eq_true rfl, ?_⟩; (conv => whnf)) | (refine ⟨⟨of_decide_eq_true rfl, of_decide_eq_true rfl⟩, ?_⟩; (conv => whnf)) | (refine ⟨fun _ => ?_, fun h => Bool.noConfusion h⟩; (conv => whnf)) | (refine ⟨fun h => Bool.noConfusion h, fun _ => ?_⟩; (conv => whnf)))))
  rw [ui]; ((conv => whnf); (repeat (first | (refine ⟨rfl, ?_⟩; (conv => whnf)) | (refine ⟨fun h => Bool.noConfusion h, fun _ => ?_⟩; (conv => whnf)))))
  refine W_round ?_
  ((conv => whnf); (repeat (first | (refine ⟨rfl, ?_⟩; (conv => whnf)) | (refine ⟨fun h => Bool.noConfusion h, fun _ => ?_⟩; (conv => whnf)))))
  refine W_round ?_
  ((conv => whnf); (repeat (first | (refine ⟨rfl, ?_⟩; (conv => whnf)) | (refine ⟨fun h => Bool.noConfusion h, fun _ => ?_⟩; (conv => whnf)))))
  exact retPure_ret rfl rfl
end Go.Proofs.YtlbafapmhjfobaaGreatDoor
namespace Go.Proofs.YtlbafapmhjfobaaGreatDoor
set_option maxRecDepth 100000
attribute [local irreducible] LoopW LoopY RngW retPure retFresh retBox retTurn
variable {gl : Nat → Option (List AV)}
theorem Tn.rows {t : Tn} (h : t.ok = true) : (1 ≤ t.d ∧ t.d ≤ 25) ∧ t.m.bd t.d ∧ (t.m.r0.dot t.m.r0 = t.d * t.d ∧ t.m.r0.dot t.m.r1 = 0 ∧ t.m.r0.dot t.m.r2 = 0) ∧ (t.m.r1.dot t.m.r0 = 0 ∧ t.m.r1.dot t.m.r1 = t.d * t.d ∧ t.m.r1.dot t.m.r2 = 0) ∧ (t.m.r2.dot t.m.r0 = 0 ∧ t.m.r2.dot t.m.r1 = 0 ∧ t.m.r2.dot t.m.r2 = t.d * t.d) ∧ (t.m.r0.cross t.m.r1).dot t.m.r2 = t.d * t.d * t.d ∧ gcdF t.d.toNat t.m.li = 1 := by
  simp only [Tn.ok, Bool.and_eq_true, decide_eq_true_eq, beq_iff_eq] at h
  obtain ⟨h1, h2, h3, h4, h5, h6⟩ := h
  have hb := within_mbd h3
  have e : t.m.mul t.m.tr = ⟨t.m.r0.dot t.m.r0, t.m.r0.dot t.m.r1, t.m.r0.dot t.m.r2, t.m.r1.dot t.m.r0, t.m.r1.dot t.m.r1, t.m.r1.dot t.m.r2, t.m.r2.dot t.m.r0, t.m.r2.dot t.m.r1, t.m.r2.dot t.m.r2⟩ := rfl
  rw [e] at h4
  simp only [M3.scale, idM, M3.mk.injEq, Int.zero_mul, Int.one_mul] at h4
  obtain ⟨a1, a2, a3, a4, a5, a6, a7, a8, a9⟩ := h4
  refine ⟨⟨h1, h2⟩, hb, ⟨a1, a2, a3⟩, ⟨a4, a5, a6⟩, ⟨a7, a8, a9⟩, ?_, ?_⟩
  · rw [← h5]
    simp only [M3.det, V3.dot, V3.cross]
    grind
  · have hg : 0 < gcdF t.d.toNat t.m.li := gcdF_pos (by omega) _
    generalize gcdF t.d.toNat t.m.li = g at *
    have hd : g = 1 ∨ 2 ≤ g := by omega
    rcases hd with hd | hd
    · exact hd
    · exfalso
      have h7 : t.d.tdiv g < t.d := by
        rw [Int.tdiv_eq_ediv_of_nonneg (by omega)]
        exact Int.ediv_lt_self_of_pos_of_ne_one (by omega) (by omega)
      omega
theorem rtrue_spec {t : Tn} (h : t.ok = true) : Spec Tryz.prog gl 57 none [(true, t.cs)] (.c false [.b true]) none := by
  refine spec_plain A57_comp Tryz.func57 Tryz.call57 fol Tryz.ntmps57 Tryz.results57 (argsB_spec rfl) (Nat.le_of_ble_eq_true rfl) (idf_c rfl) ?_
  obtain ⟨hd, hm, ⟨q00, q01, q02⟩, ⟨q10, q11, q12⟩, ⟨q20, q21, q22⟩, hdet, hg⟩ := Tn.rows h
  obtain ⟨r0, r1, r2⟩ := (hm.mono (l := 1073741824) (by omega)).r
  have hdd := mul_bd (x := t.d) (y := t.d) (k := 25) (l := 25) (by omega) (by omega)
  have hddd := mul_bd (x := t.d * t.d) (y := t.d) (k := 625) (l := 25) (by omega) (by omega)
  have hw : IntKind.i64.wrap (t.d * t.d) = t.d * t.d := wr (by omega)
  have hw3 : IntKind.i64.wrap (t.d * t.d * t.d) = t.d * t.d * t.d := wr (by omega)
  have c1 : decide (t.d < 1) = false := decide_eq_false (by omega)
  have c2 : decide (25 < t.d) = false := decide_eq_false (by omega)
  have p00 : (t.m.r0.dot t.m.r0 != IntKind.i64.wrap (t.d * t.d)) = false := by rw [q00, hw]; simp
  have p01 : (t.m.r0.dot t.m.r1 != 0) = false := by rw [q01]; simp
  have p02 : (t.m.r0.dot t.m.r2 != 0) = false := by rw [q02]; simp
  have p10 : (t.m.r1.dot t.m.r0 != 0) = false := by rw [q10]; simp
  have p11 : (t.m.r1.dot t.m.r1 != IntKind.i64.wrap (t.d * t.d)) = false := by rw [q11, hw]; simp
  have p12 : (t.m.r1.dot t.m.r2 != 0) = false := by rw [q12]; simp
  have p20 : (t.m.r2.dot t.m.r0 != 0) = false := by rw [q20]; simp
  have p21 : (t.m.r2.dot t.m.r1 != 0) = false := by rw [q21]; simp
  have p22 : (t.m.r2.dot t.m.r2 != IntKind.i64.wrap (t.d * t.d)) = false := by rw [q22, hw]; simp
  ((conv => whnf); (repeat (first | (refine ⟨rfl, ?_⟩; (conv => whnf)) | (refine ⟨Nat.le_of_ble_eq_true rfl, ?_⟩; (conv => whnf)))))
  rw [c1]; ((conv => whnf); (repeat (first | (refine ⟨rfl, ?_⟩; (conv => whnf)) | (refine ⟨Nat.le_of_ble_eq_true rfl, ?_⟩; (conv => whnf)) | (refine ⟨fun _ => ?_, fun h => Bool.noConfusion h⟩; (conv => whnf)) | (refine ⟨fun h => Bool.noConfusion h, fun _ => ?_⟩; (conv => whnf)))))
  rw [c2]; ((conv => whnf); (repeat (first | (refine ⟨Nat.le_of_ble_eq_true rfl, ?_⟩; (conv => whnf)) | (refine ⟨fun _ => ?_, fun h => Bool.noConfusion h⟩; (conv => whnf)))))
  refine call_pure (tsmall_spec (t := t) (by omega) hm) rfl rfl rfl ?_
  ((conv => whnf); (repeat (first | (refine ⟨fun _ => ?_, fun h => Bool.noConfusion h⟩; (conv => whnf)) | (refine ⟨fun h => Bool.noConfusion h, fun _ => ?_⟩; (conv => whnf)))))
  refine W_round ?_
  ((conv => whnf); (repeat (first | (refine ⟨rfl, ?_⟩; (conv => whnf)) | (refine ⟨fun _ => ?_, fun h => Bool.noConfusion h⟩; (conv => whnf)))))
  refine W_round ?_
  ((conv => whnf); (repeat (first | (refine ⟨rfl, ?_⟩; (conv => whnf)) | (refine ⟨Nat.le_of_ble_eq_true rfl, ?_⟩; (conv => whnf)) | (refine ⟨fun _ => ?_, fun h => Bool.noConfusion h⟩; (conv => whnf)))))
  refine call_pure (trow0_spec t.m) rfl rfl rfl ?_
  ((conv => whnf); (repeat (refine ⟨Nat.le_of_ble_eq_true rfl, ?_⟩; (conv => whnf))))
  refine call_pure (trow0_spec t.m) rfl rfl rfl ?_
  (conv => whnf)
  refine call_pure (rdot_spec r0 r0) rfl rfl rfl ?_
  ((conv => whnf); (repeat (first | (refine ⟨(by kernel_rfl : chk _ _ = true), ?_⟩; (conv => whnf)) | (refine ⟨rfl, ?_⟩; (conv => whnf)))))
  rw [p00]; ((conv => whnf); (repeat (first | (refine ⟨rfl, ?_⟩; (conv => whnf)) | (refine ⟨fun h => Bool.noConfusion h, fun _ => ?_⟩; (conv => whnf)))))
  refine W_round ?_
  ((conv => whnf); (repeat (first | (refine ⟨rfl, ?_⟩; (conv => whnf)) | (refine ⟨Nat.le_of_ble_eq_true rfl, ?_⟩; (conv => whnf)) | (refine ⟨fun _ => ?_, fun h => Bool.noConfusion h⟩; (conv => whnf)) | (refine ⟨fun h => Bool.noConfusion h, fun _ => ?_⟩; (conv => whnf)))))
  refine call_pure (trow0_spec t.m) rfl rfl rfl ?_
  ((conv => whnf); (repeat (refine ⟨Nat.le_of_ble_eq_true rfl, ?_⟩; (conv => whnf))))
  refine call_pure (trow1_spec t.m) rfl rfl rfl ?_
  (conv => whnf)
  refine call_pure (rdot_spec r0 r1) rfl rfl rfl ?_
  ((conv => whnf); (repeat (first | (refine ⟨(by kernel_rfl : chk _ _ = true), ?_⟩; (conv => whnf)) | (refine ⟨rfl, ?_⟩; (conv => whnf)))))
  rw [p01]; ((conv => whnf); (repeat (first | (refine ⟨rfl, ?_⟩; (conv => whnf)) | (refine ⟨fun h => Bool.noConfusion h, fun _ => ?_⟩; (conv => whnf)))))
  refine W_round ?_
  ((conv => whnf); (repeat (first | (refine ⟨rfl, ?_⟩; (conv => whnf)) | (refine ⟨Nat.le_of_ble_eq_true rfl, ?_⟩; (conv => whnf)) | (refine ⟨fun _ => ?_, fun h => Bool.noConfusion h⟩; (conv => whnf)) | (refine ⟨fun h => Bool.noConfusion h, fun _ => ?_⟩; (conv => whnf)))))
  refine call_pure (trow0_spec t.m) rfl rfl rfl ?_
  ((conv => whnf); (repeat (refine ⟨Nat.le_of_ble_eq_true rfl, ?_⟩; (conv => whnf))))
  refine call_pure (trow2_spec t.m) rfl rfl rfl ?_
  (conv => whnf)
  refine call_pure (rdot_spec r0 r2) rfl rfl rfl ?_
  ((conv => whnf); (repeat (first | (refine ⟨(by kernel_rfl : chk _ _ = true), ?_⟩; (conv => whnf)) | (refine ⟨rfl, ?_⟩; (conv => whnf)))))
  rw [p02]; ((conv => whnf); (repeat (first | (refine ⟨rfl, ?_⟩; (conv => whnf)) | (refine ⟨fun h => Bool.noConfusion h, fun _ => ?_⟩; (conv => whnf)))))
  refine W_round ?_
  ((conv => whnf); (repeat (first | (refine ⟨rfl, ?_⟩; (conv => whnf)) | (refine ⟨fun h => Bool.noConfusion h, fun _ => ?_⟩; (conv => whnf)))))
  refine W_round ?_
  ((conv => whnf); (repeat (first | (refine ⟨rfl, ?_⟩; (conv => whnf)) | (refine ⟨fun _ => ?_, fun h => Bool.noConfusion h⟩; (conv => whnf)))))
  refine W_round ?_
  ((conv => whnf); (repeat (first | (refine ⟨rfl, ?_⟩; (conv => whnf)) | (refine ⟨Nat.le_of_ble_eq_true rfl, ?_⟩; (conv => whnf)) | (refine ⟨fun _ => ?_, fun h => Bool.noConfusion h⟩; (conv => whnf)) | (refine ⟨fun h => Bool.noConfusion h, fun _ => ?_⟩; (conv => whnf)))))
  refine call_pure (trow1_spec t.m) rfl rfl rfl ?_
  ((conv => whnf); (repeat (refine ⟨Nat.le_of_ble_eq_true rfl, ?_⟩; (conv => whnf))))
  refine call_pure (trow0_spec t.m) rfl rfl rfl ?_
  (conv => whnf)
  refine call_pure (rdot_spec r1 r0) rfl rfl rfl ?_
  ((conv => whnf); (repeat (first | (refine ⟨(by kernel_rfl : chk _ _ = true), ?_⟩; (conv => whnf)) | (refine ⟨rfl, ?_⟩; (conv => whnf)))))
  rw [p10]; ((conv => whnf); (repeat (first | (refine ⟨rfl, ?_⟩; (conv => whnf)) | (refine ⟨fun h => Bool.noConfusion h, fun _ => ?_⟩; (conv => whnf)))))
  refine W_round ?_
  ((conv => whnf); (repeat (first | (refine ⟨rfl, ?_⟩; (conv => whnf)) | (refine ⟨Nat.le_of_ble_eq_true rfl, ?_⟩; (conv => whnf)) | (refine ⟨fun _ => ?_, fun h => Bool.noConfusion h⟩; (conv => whnf)))))
  refine call_pure (trow1_spec t.m) rfl rfl rfl ?_
  ((conv => whnf); (repeat (refine ⟨Nat.le_of_ble_eq_true rfl, ?_⟩; (conv => whnf))))
  refine call_pure (trow1_spec t.m) rfl rfl rfl ?_
  (conv => whnf)
  refine call_pure (rdot_spec r1 r1) rfl rfl rfl ?_
  ((conv => whnf); (repeat (first | (refine ⟨(by kernel_rfl : chk _ _ = true), ?_⟩; (conv => whnf)) | (refine ⟨rfl, ?_⟩; (conv => whnf)))))
  rw [p11]; ((conv => whnf); (repeat (first | (refine ⟨rfl, ?_⟩; (conv => whnf)) | (refine ⟨fun h => Bool.noConfusion h, fun _ => ?_⟩; (conv => whnf)))))
  refine W_round ?_
  ((conv => whnf); (repeat (first | (refine ⟨rfl, ?_⟩; (conv => whnf)) | (refine ⟨Nat.le_of_ble_eq_true rfl, ?_⟩; (conv => whnf)) | (refine ⟨fun _ => ?_, fun h => Bool.noConfusion h⟩; (conv => whnf)) | (refine ⟨fun h => Bool.noConfusion h, fun _ => ?_⟩; (conv => whnf)))))
  refine call_pure (trow1_spec t.m) rfl rfl rfl ?_
  ((conv => whnf); (repeat (refine ⟨Nat.le_of_ble_eq_true rfl, ?_⟩; (conv => whnf))))
  refine call_pure (trow2_spec t.m) rfl rfl rfl ?_
  (conv => whnf)
  refine call_pure (rdot_spec r1 r2) rfl rfl rfl ?_
  ((conv => whnf); (repeat (first | (refine ⟨(by kernel_rfl : chk _ _ = true), ?_⟩; (conv => whnf)) | (refine ⟨rfl, ?_⟩; (conv => whnf)))))
  rw [p12]; ((conv => whnf); (repeat (first | (refine ⟨rfl, ?_⟩; (conv => whnf)) | (refine ⟨fun h => Bool.noConfusion h, fun _ => ?_⟩; (conv => whnf)))))
  refine W_round ?_
  ((conv => whnf); (repeat (first | (refine ⟨rfl, ?_⟩; (conv => whnf)) | (refine ⟨fun h => Bool.noConfusion h, fun _ => ?_⟩; (conv => whnf)))))
  refine W_round ?_
  ((conv => whnf); (repeat (first | (refine ⟨rfl, ?_⟩; (conv => whnf)) | (refine ⟨fun _ => ?_, fun h => Bool.noConfusion h⟩; (conv => whnf)))))
  refine W_round ?_
  ((conv => whnf); (repeat (first | (refine ⟨rfl, ?_⟩; (conv => whnf)) | (refine ⟨Nat.le_of_ble_eq_true rfl, ?_⟩; (conv => whnf)) | (refine ⟨fun _ => ?_, fun h => Bool.noConfusion h⟩; (conv => whnf)) | (refine ⟨fun h => Bool.noConfusion h, fun _ => ?_⟩; (conv => whnf)))))
  refine call_pure (trow2_spec t.m) rfl rfl rfl ?_
  ((conv => whnf); (repeat (refine ⟨Nat.le_of_ble_eq_true rfl, ?_⟩; (conv => whnf))))
  refine call_pure (trow0_spec t.m) rfl rfl rfl ?_
  (conv => whnf)
  refine call_pure (rdot_spec r2 r0) rfl rfl rfl ?_
  ((conv => whnf); (repeat (first | (refine ⟨(by kernel_rfl : chk _ _ = true), ?_⟩; (conv => whnf)) | (refine ⟨rfl, ?_⟩; (conv => whnf)))))
  rw [p20]; ((conv => whnf); (repeat (first | (refine ⟨rfl, ?_⟩; (conv => whnf)) | (refine ⟨fun h => Bool.noConfusion h, fun _ => ?_⟩; (conv => whnf)))))
  refine W_round ?_
  ((conv => whnf); (repeat (first | (refine ⟨rfl, ?_⟩; (conv => whnf)) | (refine ⟨Nat.le_of_ble_eq_true rfl, ?_⟩; (conv => whnf)) | (refine ⟨fun _ => ?_, fun h => Bool.noConfusion h⟩; (conv => whnf)) | (refine ⟨fun h => Bool.noConfusion h, fun _ => ?_⟩; (conv => whnf)))))
  refine call_pure (trow2_spec t.m) rfl rfl rfl ?_
  ((conv => whnf); (repeat (refine ⟨Nat.le_of_ble_eq_true rfl, ?_⟩; (conv => whnf))))
  refine call_pure (trow1_spec t.m) rfl rfl rfl ?_
  (conv => whnf)
  refine call_pure (rdot_spec r2 r1) rfl rfl rfl ?_
  ((conv => whnf); (repeat (first | (refine ⟨(by kernel_rfl : chk _ _ = true), ?_⟩; (conv => whnf)) | (refine ⟨rfl, ?_⟩; (conv => whnf)))))
  rw [p21]; ((conv => whnf); (repeat (first | (refine ⟨rfl, ?_⟩; (conv => whnf)) | (refine ⟨fun h => Bool.noConfusion h, fun _ => ?_⟩; (conv => whnf)))))
  refine W_round ?_
  ((conv => whnf); (repeat (first | (refine ⟨rfl, ?_⟩; (conv => whnf)) | (refine ⟨Nat.le_of_ble_eq_true rfl, ?_⟩; (conv => whnf)) | (refine ⟨fun _ => ?_, fun h => Bool.noConfusion h⟩; (conv => whnf)))))
  refine call_pure (trow2_spec t.m) rfl rfl rfl ?_
  ((conv => whnf); (repeat (refine ⟨Nat.le_of_ble_eq_true rfl, ?_⟩; (conv => whnf))))
  refine call_pure (trow2_spec t.m) rfl rfl rfl ?_
  (conv => whnf)
  refine call_pure (rdot_spec r2 r2) rfl rfl rfl ?_
  ((conv => whnf); (repeat (first | (refine ⟨(by kernel_rfl : chk _ _ = true), ?_⟩; (conv => whnf)) | (refine ⟨rfl, ?_⟩; (conv => whnf)))))
  rw [p22]; ((conv => whnf); (repeat (first | (refine ⟨rfl, ?_⟩; (conv => whnf)) | (refine ⟨fun h => Bool.noConfusion h, fun _ => ?_⟩; (conv => whnf)))))
  refine W_round ?_
  ((conv => whnf); (repeat (first | (refine ⟨rfl, ?_⟩; (conv => whnf)) | (refine ⟨fun h => Bool.noConfusion h, fun _ => ?_⟩; (conv => whnf)))))
  refine W_round ?_
  ((conv => whnf); (repeat (first | (refine ⟨rfl, ?_⟩; (conv => whnf)) | (refine ⟨Nat.le_of_ble_eq_true rfl, ?_⟩; (conv => whnf)) | (refine ⟨fun h => Bool.noConfusion h, fun _ => ?_⟩; (conv => whnf)))))
  refine call_pure (trow0_spec t.m) rfl rfl rfl ?_
  ((conv => whnf); (repeat (refine ⟨Nat.le_of_ble_eq_true rfl, ?_⟩; (conv => whnf))))
  refine call_pure (trow1_spec t.m) rfl rfl rfl ?_
  (conv => whnf)
  refine call_pure (rcross_spec r0 r1) rfl rfl rfl ?_
  ((conv => whnf); (repeat (refine ⟨Nat.le_of_ble_eq_true rfl, ?_⟩; (conv => whnf))))
  refine call_pure (trow2_spec t.m) rfl rfl rfl ?_
  (conv => whnf)
  refine call_pure (rdot_spec (a := t.m.r0.cross t.m.r1) (b := t.m.r2) ((cross_bd (hm.mono (l := 25) (by omega)).r.1 (hm.mono (l := 25) (by omega)).r.2.1).mono (by omega)) r2) rfl rfl rfl ?_
  ((conv => whnf); (repeat (first | (refine ⟨(by kernel_rfl : chk _ _ = true), ?_⟩; (conv => whnf)) | (refine ⟨rfl, ?_⟩; (conv => whnf)) | (refine ⟨Nat.le_of_ble_eq_true rfl, ?_⟩; (conv => whnf)))))
  rw [hw, hw3, hdet, beq_self_eq_true]; ((conv => whnf); (repeat (first | (refine ⟨Nat.le_of_ble_eq_true rfl, ?_⟩; (conv => whnf)) | (refine ⟨fun _ => ?_, fun h => Bool.noConfusion h⟩; (conv => whnf)))))
  refine call_pure (tcommon_spec (t := t) (by omega) (hm.mono (by omega))) rfl rfl rfl ?_
  ((conv => whnf); (repeat (first | (refine ⟨rfl, ?_⟩; (conv => whnf)) | (refine ⟨fun _ => ?_, fun h => Bool.noConfusion h⟩; (conv => whnf)))))
  refine retPure_ret rfl ?_
  refine eqb ?_
  have e : t.d.natAbs = t.d.toNat := by omega
  rw [e, hg]
  rfl
theorem rfalse_spec {t : Tn} (hd : 1 ≤ t.d ∧ t.d ≤ 25) (hm : t.m.bd t.d) (h0 : t.m.r0.dot t.m.r0 = t.d * t.d) (h1 : t.m.r0.dot t.m.r1 ≠ 0) : Spec Tryz.prog gl 57 none [(true, t.cs)] (.c false [.b false]) none := by
  refine spec_plain A57_comp Tryz.func57 Tryz.call57 fol Tryz.ntmps57 Tryz.results57 (argsB_spec rfl) (Nat.le_of_ble_eq_true rfl) (idf_c rfl) ?_
  obtain ⟨r0, r1, r2⟩ := (hm.mono (l := 1073741824) (by omega)).r
  have hdd := mul_bd (x := t.d) (y := t.d) (k := 25) (l := 25) (by omega) (by omega)
  have hw : IntKind.i64.wrap (t.d * t.d) = t.d * t.d := wr (by omega)
  have c1 : decide (t.d < 1) = false := decide_eq_false (by omega)
  have c2 : decide (25 < t.d) = false := decide_eq_false (by omega)
  have p00 : (t.m.r0.dot t.m.r0 != IntKind.i64.wrap (t.d * t.d)) = false := by rw [h0, hw]; simp
  have p01 : (t.m.r0.dot t.m.r1 != 0) = true := by simpa using h1
  ((conv => whnf); (repeat (first | (refine ⟨rfl, ?_⟩; (conv => whnf)) | (refine ⟨Nat.le_of_ble_eq_true rfl, ?_⟩; (conv => whnf)))))
  rw [c1]; ((conv => whnf); (repeat (first | (refine ⟨rfl, ?_⟩; (conv => whnf)) | (refine ⟨Nat.le_of_ble_eq_true rfl, ?_⟩; (conv => whnf)) | (refine ⟨fun _ => ?_, fun h => Bool.noConfusion h⟩; (conv => whnf)) | (refine ⟨fun h => Bool.noConfusion h, fun _ => ?_⟩; (conv => whnf)))))
  rw [c2]; ((conv => whnf); (repeat (first | (refine ⟨Nat.le_of_ble_eq_true rfl, ?_⟩; (conv => whnf)) | (refine ⟨fun _ => ?_, fun h => Bool.noConfusion h⟩; (conv => whnf)))))
  refine call_pure (tsmall_spec (t := t) (by omega) hm) rfl rfl rfl ?_
  ((conv => whnf); (repeat (first | (refine ⟨fun _ => ?_, fun h => Bool.noConfusion h⟩; (conv => whnf)) | (refine ⟨fun h => Bool.noConfusion h, fun _ => ?_⟩; (conv => whnf)))))
  refine W_round ?_
  ((conv => whnf); (repeat (first | (refine ⟨rfl, ?_⟩; (conv => whnf)) | (refine ⟨fun _ => ?_, fun h => Bool.noConfusion h⟩; (conv => whnf)))))
  refine W_round ?_
  ((conv => whnf); (repeat (first | (refine ⟨rfl, ?_⟩; (conv => whnf)) | (refine ⟨Nat.le_of_ble_eq_true rfl, ?_⟩; (conv => whnf)) | (refine ⟨fun _ => ?_, fun h => Bool.noConfusion h⟩; (conv => whnf)))))
  refine call_pure (trow0_spec t.m) rfl rfl rfl ?_
  ((conv => whnf); (repeat (refine ⟨Nat.le_of_ble_eq_true rfl, ?_⟩; (conv => whnf))))
  refine call_pure (trow0_spec t.m) rfl rfl rfl ?_
  (conv => whnf)
  refine call_pure (rdot_spec r0 r0) rfl rfl rfl ?_
  ((conv => whnf); (repeat (first | (refine ⟨(by kernel_rfl : chk _ _ = true), ?_⟩; (conv => whnf)) | (refine ⟨rfl, ?_⟩; (conv => whnf)))))
  rw [p00]; ((conv => whnf); (repeat (first | (refine ⟨rfl, ?_⟩; (conv => whnf)) | (refine ⟨fun h => Bool.noConfusion h, fun _ => ?_⟩; (conv => whnf)))))
  refine W_round ?_
  ((conv => whnf); (repeat (first | (refine ⟨rfl, ?_⟩; (conv => whnf)) | (refine ⟨Nat.le_of_ble_eq_true rfl, ?_⟩; (conv => whnf)) | (refine ⟨fun _ => ?_, fun h => Bool.noConfusion h⟩; (conv => whnf)) | (refine ⟨fun h => Bool.noConfusion h, fun _ => ?_⟩; (conv => whnf)))))
  refine call_pure (trow0_spec t.m) rfl rfl rfl ?_
  ((conv => whnf); (repeat (refine ⟨Nat.le_of_ble_eq_true rfl, ?_⟩; (conv => whnf))))
  refine call_pure (trow1_spec t.m) rfl rfl rfl ?_
  (conv => whnf)
  refine call_pure (rdot_spec r0 r1) rfl rfl rfl ?_
  ((conv => whnf); (repeat (first | (refine ⟨(by kernel_rfl : chk _ _ = true), ?_⟩; (conv => whnf)) | (refine ⟨rfl, ?_⟩; (conv => whnf)))))
  rw [p01]; ((conv => whnf); (repeat (refine ⟨fun _ => ?_, fun h => Bool.noConfusion h⟩; (conv => whnf))))
  exact retPure_ret rfl rfl
theorem rright_spec {f : Fr} (h : f.ok = true) : Spec Tryz.prog gl 59 none [(true, f.cs)] (.c false [.b true]) none := by
  refine spec_plain A59_comp Tryz.func59 Tryz.call59 fol Tryz.ntmps59 Tryz.results59 (argsB_spec rfl) (Nat.le_of_ble_eq_true rfl) (idf_c rfl) ?_
  simp only [Fr.ok, Bool.and_eq_true] at h
  ((conv => whnf); (repeat (refine ⟨Nat.le_of_ble_eq_true rfl, ?_⟩; (conv => whnf))))
  refine call_pure (rtrue_spec h.2) rfl rfl rfl ?_
  ((conv => whnf); (repeat (first | (refine ⟨Nat.le_of_ble_eq_true rfl, ?_⟩; (conv => whnf)) | (refine ⟨fun _ => ?_, fun h => Bool.noConfusion h⟩; (conv => whnf)))))
  refine call_pure (twithin_spec (short_bd h.1)) rfl rfl rfl ?_
  ((conv => whnf); (repeat (refine ⟨fun _ => ?_, fun h => Bool.noConfusion h⟩; (conv => whnf))))
  exact retPure_ret rfl rfl
end Go.Proofs.YtlbafapmhjfobaaGreatDoor
namespace Go.Proofs.YtlbafapmhjfobaaGreatDoor
set_option maxRecDepth 100000
attribute [local irreducible] LoopW LoopY RngW retPure retFresh retBox retTurn
variable {gl : Nat → Option (List AV)}
def befB (a b : V3) : Bool := if a.x = b.x then (if a.y = b.y then decide (a.z < b.z) else decide (a.y < b.y)) else decide (a.x < b.x)
def putL (v : V3) : List V3 → List V3
  | [] => [v]
  | x :: xs => if befB x v then x :: putL v xs else if x = v then x :: xs else v :: x :: xs
def putB (v : V3) (xs : List V3) : Nat → Bool := fun j => (xs.take j).all fun x => befB x v
theorem putL_at (v : V3) : ∀ (xs : List V3) (j : Nat), putB v xs j = true → putL v xs = xs.take j ++ putL v (xs.drop j) := by
  intro xs
  induction xs with
  | nil => intro j _; simp
  | cons x xs ih =>
    intro j hj
    cases j with
    | zero => simp
    | succ j =>
      simp only [putB, List.take_succ_cons, List.all_cons, Bool.and_eq_true] at hj
      simp only [putL, hj.1, if_true, List.take_succ_cons, List.drop_succ_cons, List.cons_append]
      rw [ih j hj.2]
theorem eqvw (a b : V3) : eqVs [.int .i64 a.x, .int .i64 a.y, .int .i64 a.z] [.int .i64 b.x, .int .i64 b.y, .int .i64 b.z] = true ↔ a = b := by
  cases a; cases b
  simp [eqVs]
theorem bef_spec (a b : V3) : Spec Tryz.prog gl 46 none [(true, a.cs), (true, b.cs)] (.c false [.b (befB a b)]) none := by
  refine spec_plain A46_comp Tryz.func46 Tryz.call46 fol Tryz.ntmps46 Tryz.results46 (argsB_spec rfl) (Nat.le_of_ble_eq_true rfl) (idf_c rfl) ?_
  ((conv => whnf); (repeat (first | (refine ⟨rfl, ?_⟩; (conv => whnf)) | (refine ⟨Nat.le_of_ble_eq_true rfl, ?_⟩; (conv => whnf)))))
  refine ⟨fun h1 => ?_, fun h1 => ?_⟩
  · have h1' : ¬ a.x = b.x := by simpa using h1
    ((conv => whnf); (repeat (first | (refine ⟨rfl, ?_⟩; (conv => whnf)) | (refine ⟨Nat.le_of_ble_eq_true rfl, ?_⟩; (conv => whnf)))))
    refine retPure_ret rfl ?_
    exact eqb (by rw [befB, if_neg h1'])
  · have h1' : a.x = b.x := by simpa using h1
    ((conv => whnf); (repeat (first | (refine ⟨rfl, ?_⟩; (conv => whnf)) | (refine ⟨Nat.le_of_ble_eq_true rfl, ?_⟩; (conv => whnf)))))
    refine ⟨fun h2 => ?_, fun h2 => ?_⟩
    · have h2' : ¬ a.y = b.y := by simpa using h2
      ((conv => whnf); (repeat (first | (refine ⟨rfl, ?_⟩; (conv => whnf)) | (refine ⟨Nat.le_of_ble_eq_true rfl, ?_⟩; (conv => whnf)))))
      refine retPure_ret rfl ?_
      exact eqb (by rw [befB, if_pos h1', if_neg h2'])
    · have h2' : a.y = b.y := by simpa using h2
      ((conv => whnf); (repeat (first | (refine ⟨rfl, ?_⟩; (conv => whnf)) | (refine ⟨Nat.le_of_ble_eq_true rfl, ?_⟩; (conv => whnf)))))
      refine retPure_ret rfl ?_
      exact eqb (by rw [befB, if_pos h1', if_pos h2'])
theorem same_spec {xs ys : List V3} (hx : xs.length ≤ 1000000) : Spec Tryz.prog gl 15 none [(false, [.li 3 (vcs xs)]), (false, [.li 3 (vcs xs)])] (.c false [.b true]) none := by
  refine spec_plain A15_comp Tryz.func15 Tryz.call15 fol Tryz.ntmps15 Tryz.results15 (argsB_spec rfl) (Nat.le_of_ble_eq_true rfl) (idf_c rfl) ?_
  ((conv => whnf); (repeat (refine ⟨rfl, ?_⟩; (conv => whnf))))
  refine ⟨fun h => by simp at h, fun _ => ?_⟩
  (conv => whnf)
  refine W_loop (fun i : Nat => i ≤ xs.length)
    (fun i => mk [(0, .c false [.li 3 (vcs xs)]), (1, .c false [.li 3 (vcs xs)]), (4, .c false [.b false]), (5, .c false [.i i])] [] 100)
    (fun i => xs.length - i) 0 (by simp) (.to ⟨rfl, rfl, rfl, rfl, trivial⟩ trivial rfl rfl) ?_
  intro i hi
  ((conv => whnf); (repeat (refine ⟨rfl, ?_⟩; (conv => whnf))))
  refine ⟨fun h => ?_, fun h => ?_⟩
  · have hlt : i < xs.length := by simpa using h
    ((conv => whnf); (repeat (refine ⟨rfl, ?_⟩; (conv => whnf))))
    refine ⟨⟨by omega, by simpa using hlt⟩, ?_⟩
    have e : (vcs xs).getD (i : Int).toNat [] = xs[i].cs := by simp [hlt]
    (conv => whnf)
    rw [e]; ((conv => whnf); (repeat (first | (refine ⟨rfl, ?_⟩; (conv => whnf)) | (refine ⟨Nat.le_of_ble_eq_true rfl, ?_⟩; (conv => whnf)))))
    refine ⟨⟨by omega, by simpa using hlt⟩, ?_⟩
    (conv => whnf)
    rw [e]; ((conv => whnf); (repeat (first | (refine ⟨(by kernel_rfl : chk _ _ = true), ?_⟩; (conv => whnf)) | (refine ⟨rfl, ?_⟩; (conv => whnf)) | (refine ⟨Nat.le_of_ble_eq_true rfl, ?_⟩; (conv => whnf)))))
    refine ⟨fun h => ?_, fun _ => ?_⟩
    · exfalso
      have e2 : eqVs [.int .i64 xs[i].x, .int .i64 xs[i].y, .int .i64 xs[i].z] [.int .i64 xs[i].x, .int .i64 xs[i].y, .int .i64 xs[i].z] = true := by simp [eqVs]
      have h' : (!eqVs [.int .i64 xs[i].x, .int .i64 xs[i].y, .int .i64 xs[i].z] [.int .i64 xs[i].x, .int .i64 xs[i].y, .int .i64 xs[i].z]) = true := h
      rw [e2] at h'
      cases h'
    ((conv => whnf); (repeat (refine ⟨rfl, ?_⟩; (conv => whnf))))
    refine ⟨i + 1, hlt, by omega, .to ⟨rfl, rfl, rfl, eq1 (by rw [wr (by omega)]; omega), trivial⟩ trivial rfl rfl⟩
  · (conv => whnf)
    exact retPure_ret rfl rfl
theorem row_eq {xs l : List V3} {v : V3} {i : Nat} (h : l = xs.take i ++ [v] ++ xs.drop i) :
    (([] ++ List.drop (0 : Int).toNat (List.take (i : Int).toNat (vcs xs))) ++ [v.cs]) ++ List.drop (i : Int).toNat (List.take ((vcs xs).length : Int).toNat (vcs xs)) = vcs l := by
  rw [h]
  have e : List.take ((vcs xs).length : Int).toNat (vcs xs) = vcs xs := by rw [Int.toNat_natCast]; exact List.take_length
  rw [e]
  simp [List.map_take, List.map_drop]
theorem put_spec {xs : List V3} {v : V3} (hx : xs.length ≤ 100000) : Spec Tryz.prog gl 14 none [(false, [.li 3 (vcs xs)]), (true, v.cs)] (.c false [.li 3 (vcs (putL v xs))]) none := by
  refine spec_plain A14_comp Tryz.func14 Tryz.call14 fol Tryz.ntmps14 Tryz.results14 (argsB_spec rfl) (Nat.le_of_ble_eq_true rfl) (idf_c rfl) ?_
  (conv => whnf)
  refine W_loop (fun i : Nat => i ≤ xs.length ∧ putB v xs i = true)
    (fun i => mk [(0, .c false [.li 3 (vcs xs)]), (3, .c false [.ptr 1 0]), (4, .c false [.nil]), (5, .c false [.i i])] [(1, .box v.cs)] 100)
    (fun i => xs.length - i) 0 ⟨by simp, by simp [putB]⟩ (.to ⟨rfl, rfl, rfl, rfl, trivial⟩ ⟨rfl, trivial⟩ rfl rfl) ?_
  rintro i ⟨hi, hp⟩
  ((conv => whnf); (repeat (refine ⟨rfl, ?_⟩; (conv => whnf))))
  have stop : (hl : i < xs.length) → befB xs[i] v = false → putL v xs = if xs[i] = v then xs else xs.take i ++ [v] ++ xs.drop i := by
    intro hl hb
    rw [putL_at v xs i hp, List.drop_eq_getElem_cons hl, putL, if_neg (by rw [hb]; decide)]
    split
    · rw [← List.drop_eq_getElem_cons hl, List.take_append_drop]
    · simp
  have fin : i = xs.length → putL v xs = xs.take i ++ [v] ++ xs.drop i := by
    intro h
    rw [putL_at v xs i hp, h, List.drop_length]
    simp [putL]
  cases hlt : decide ((i : Int) < ((vcs xs).length : Int))
  · have hi' : i = xs.length := by simp at hlt; omega
    ((conv => whnf); (repeat (first | (refine ⟨(by kernel_rfl : chk _ _ = true), ?_⟩; (conv => whnf)) | (refine ⟨rfl, ?_⟩; (conv => whnf)) | (refine ⟨fun h => Bool.noConfusion h, fun _ => ?_⟩; (conv => whnf)))))
    rw [hlt]
    ((conv => whnf); (repeat (first | (refine ⟨(by kernel_rfl : chk _ _ = true), ?_⟩; (conv => whnf)) | (refine ⟨rfl, ?_⟩; (conv => whnf)) | (refine ⟨fun h => Bool.noConfusion h, fun _ => ?_⟩; (conv => whnf)))))
    refine ⟨⟨by omega, by omega, by simpa using hi⟩, ?_⟩
    ((conv => whnf); (repeat (refine ⟨rfl, ?_⟩; (conv => whnf))))
    refine ⟨by simp [big]; omega, fun m h => by simp [ev, putS, upd] at h, ?_⟩
    ((conv => whnf); (repeat (first | (refine ⟨rfl, ?_⟩; (conv => whnf)) | (refine ⟨Nat.le_of_ble_eq_true rfl, ?_⟩; (conv => whnf)) | (refine ⟨⟨of_decide_eq_true rfl, of_decide_eq_true rfl⟩, ?_⟩; (conv => whnf)))))
    refine ⟨by simp [big]; omega, fun m h => by simp [ev, putS, upd] at h, ?_⟩
    ((conv => whnf); (repeat (first | (refine ⟨(by kernel_rfl : chk _ _ = true), ?_⟩; (conv => whnf)) | (refine ⟨rfl, ?_⟩; (conv => whnf)))))
    refine ⟨⟨by omega, by simpa using hi, by simp⟩, ?_⟩
    ((conv => whnf); (repeat (refine ⟨rfl, ?_⟩; (conv => whnf))))
    refine ⟨by simp [big]; omega, fun m h => by simp [ev, putS, upd] at h, ?_⟩
    (conv => whnf)
    refine retPure_fr rfl ?_
    refine ⟨rfl, .inr (.inr (.inl ⟨_, _, 3, vcs (putL v xs), rfl, rfl, trivial, congrArg (fun l => some (HE.row 3 l)) (row_eq (fin hi')), congrArg List.length (row_eq (fin hi'))⟩)), trivial⟩
  · have hlt' : i < xs.length := by simpa using hlt
    have e : (vcs xs).getD (i : Int).toNat [] = xs[i].cs := by simp [hlt']
    ((conv => whnf); (repeat (first | (refine ⟨rfl, ?_⟩; (conv => whnf)) | (refine ⟨fun _ => ?_, fun h => Bool.noConfusion h⟩; (conv => whnf)))))
    refine ⟨⟨by omega, by simpa using hlt'⟩, ?_⟩
    ((conv => whnf); (repeat (refine ⟨fun _ => ?_, fun h => Bool.noConfusion h⟩; (conv => whnf))))
    rw [e]; ((conv => whnf); (repeat (first | (refine ⟨Nat.le_of_ble_eq_true rfl, ?_⟩; (conv => whnf)) | (refine ⟨fun _ => ?_, fun h => Bool.noConfusion h⟩; (conv => whnf)))))
    refine call_pure (bef_spec xs[i] v) rfl rfl rfl ?_
    ((conv => whnf); (repeat (first | (refine ⟨(by kernel_rfl : chk _ _ = true), ?_⟩; (conv => whnf)) | (refine ⟨fun _ => ?_, fun h => Bool.noConfusion h⟩; (conv => whnf)))))
    cases hb : befB xs[i] v
    · ((conv => whnf); (repeat (first | (refine ⟨rfl, ?_⟩; (conv => whnf)) | (refine ⟨fun h => Bool.noConfusion h, fun _ => ?_⟩; (conv => whnf)))))
      rw [hlt]
      ((conv => whnf); (repeat (first | (refine ⟨rfl, ?_⟩; (conv => whnf)) | (refine ⟨fun _ => ?_, fun h => Bool.noConfusion h⟩; (conv => whnf)))))
      refine ⟨⟨by omega, by simpa using hlt'⟩, ?_⟩
      ((conv => whnf); (repeat (refine ⟨fun _ => ?_, fun h => Bool.noConfusion h⟩; (conv => whnf))))
      rw [e]; ((conv => whnf); (repeat (first | (refine ⟨(by kernel_rfl : chk _ _ = true), ?_⟩; (conv => whnf)) | (refine ⟨rfl, ?_⟩; (conv => whnf)) | (refine ⟨Nat.le_of_ble_eq_true rfl, ?_⟩; (conv => whnf)) | (refine ⟨fun _ => ?_, fun h => Bool.noConfusion h⟩; (conv => whnf)))))
      refine ⟨fun h => ?_, fun h => ?_⟩
      · have hq : xs[i] = v := (eqvw xs[i] v).1 h
        (conv => whnf)
        refine retPure_ret rfl ?_
        rw [stop hlt' hb, if_pos hq]; rfl
      · have hq : ¬ xs[i] = v := fun hq => Bool.noConfusion (((eqvw xs[i] v).2 hq).symm.trans h)
        ((conv => whnf); (repeat (refine ⟨rfl, ?_⟩; (conv => whnf))))
        refine ⟨⟨by omega, by omega, by simpa using hi⟩, ?_⟩
        ((conv => whnf); (repeat (refine ⟨rfl, ?_⟩; (conv => whnf))))
        refine ⟨by simp [big]; omega, fun m h => by simp [ev, putS, upd] at h, ?_⟩
        ((conv => whnf); (repeat (first | (refine ⟨rfl, ?_⟩; (conv => whnf)) | (refine ⟨Nat.le_of_ble_eq_true rfl, ?_⟩; (conv => whnf)) | (refine ⟨⟨of_decide_eq_true rfl, of_decide_eq_true rfl⟩, ?_⟩; (conv => whnf)))))
        refine ⟨by simp [big]; omega, fun m h => by simp [ev, putS, upd] at h, ?_⟩
        ((conv => whnf); (repeat (first | (refine ⟨(by kernel_rfl : chk _ _ = true), ?_⟩; (conv => whnf)) | (refine ⟨rfl, ?_⟩; (conv => whnf)))))
        refine ⟨⟨by omega, by simpa using hi, by simp⟩, ?_⟩
        ((conv => whnf); (repeat (refine ⟨rfl, ?_⟩; (conv => whnf))))
        refine ⟨by simp [big]; omega, fun m h => by simp [ev, putS, upd] at h, ?_⟩
        (conv => whnf)
        refine retPure_fr rfl ?_
        refine ⟨rfl, .inr (.inr (.inl ⟨_, _, 3, vcs (putL v xs), rfl, rfl, trivial, congrArg (fun l => some (HE.row 3 l)) (row_eq (by rw [stop hlt' hb, if_neg hq])), congrArg List.length (row_eq (by rw [stop hlt' hb, if_neg hq]))⟩)), trivial⟩
    · ((conv => whnf); (repeat (first | (refine ⟨rfl, ?_⟩; (conv => whnf)) | (refine ⟨fun _ => ?_, fun h => Bool.noConfusion h⟩; (conv => whnf)))))
      refine ⟨i + 1, ⟨hlt', ?_⟩, by omega, .to ⟨rfl, rfl, rfl, eq1 (by rw [wr (by omega)]; omega), trivial⟩ ⟨rfl, trivial⟩ rfl rfl⟩
      simp only [putB] at hp ⊢
      rw [List.take_add_one, List.getElem?_eq_getElem hlt', List.all_append, hp]
      simp [hb]
end Go.Proofs.YtlbafapmhjfobaaGreatDoor
namespace Go.Proofs.YtlbafapmhjfobaaGreatDoor
set_option maxRecDepth 100000
attribute [local irreducible] LoopW LoopY RngW retPure retFresh retBox retTurn
variable {gl : Nat → Option (List AV)}
/-- one rotation after another one -/
def raft (f g : Tn) : Tn := ⟨(g.m.mul f.m).divs (gcdF (f.d * g.d).natAbs (g.m.mul f.m).li), (f.d * g.d).tdiv (gcdF (f.d * g.d).natAbs (g.m.mul f.m).li)⟩
theorem c10 {a b c d e f g h i j a' b' c' d' e' f' g' h' i' j' : Int} (h1 : a = a') (h2 : b = b') (h3 : c = c') (h4 : d = d') (h5 : e = e') (h6 : f = f') (h7 : g = g') (h8 : h = h') (h9 : i = i') (h10 : j = j') (l : List AV) :
    [AV.i a, .i b, .i c, .i d, .i e, .i f, .i g, .i h, .i i, .i j] ++ l = [AV.i a', .i b', .i c', .i d', .i e', .i f', .i g', .i h', .i i', .i j'] ++ l := by rw [h1, h2, h3, h4, h5, h6, h7, h8, h9, h10]
set_option maxHeartbeats 4000000 in
theorem rafter_spec {f g : Fr} (hf : f.ok = true) (hg : g.ok = true) (hm : (g.t.m.of f.s).mods g.t.d = true) (hh : Fr.ok ⟨raft f.t g.t, ((g.t.m.of f.s).div g.t.d).add g.s⟩ = true) :
    Spec Tryz.prog gl 26 none [(true, f.cs), (true, g.cs)] (.tup [(true, (Fr.mk (raft f.t g.t) (((g.t.m.of f.s).div g.t.d).add g.s)).cs), (false, [.b true])]) none := by
  refine spec_plain A26_comp Tryz.func26 Tryz.call26 fol Tryz.ntmps26 Tryz.results26 (argsB_spec rfl) (Nat.le_of_ble_eq_true rfl) (idf_c rfl) ?_
  have hf' := hf
  have hg' := hg
  simp only [Fr.ok, Bool.and_eq_true] at hf' hg'
  obtain ⟨f1, f2, f3, _, _⟩ := Tn.ok_spec hf'.2
  obtain ⟨g1, g2, g3, _, _⟩ := Tn.ok_spec hg'.2
  have fs := short_bd hf'.1
  have gs := short_bd hg'.1
  have fm : f.t.m.bd 25 := f3.mono (by omega)
  have gm : g.t.m.bd 25 := g3.mono (by omega)
  have bo := of_bd gm fs
  have bmul := mul_mbd gm fm
  have bdd := mul_bd (x := f.t.d) (y := g.t.d) (k := 25) (l := 25) (by omega) (by omega)
  have hpos : 0 < f.t.d * g.t.d := Int.mul_pos (by omega) (by omega)
  have wd : IntKind.i64.wrap (f.t.d * g.t.d) = f.t.d * g.t.d := wr (by omega)
  obtain ⟨g_0, g_1, g_2⟩ := (gm.mono (l := 1073741824) (by omega)).r
  obtain ⟨ff1, ff2, ff3, ff4, ff5, ff6, ff7, ff8, ff9⟩ := fm.mono (l := 1073741824) (by omega)
  have f_0 : f.t.m.c0.bd 1073741824 := ⟨ff1, ff4, ff7⟩
  have f_1 : f.t.m.c1.bd 1073741824 := ⟨ff2, ff5, ff8⟩
  have f_2 : f.t.m.c2.bd 1073741824 := ⟨ff3, ff6, ff9⟩
  ((conv => whnf); (repeat (refine ⟨Nat.le_of_ble_eq_true rfl, ?_⟩; (conv => whnf))))
  refine call_pure (rright_spec hf) rfl rfl rfl ?_
  ((conv => whnf); (repeat (first | (refine ⟨Nat.le_of_ble_eq_true rfl, ?_⟩; (conv => whnf)) | (refine ⟨fun _ => ?_, fun h => Bool.noConfusion h⟩; (conv => whnf)))))
  refine call_pure (rright_spec hg) rfl rfl rfl ?_
  ((conv => whnf); (repeat (first | (refine ⟨rfl, ?_⟩; (conv => whnf)) | (refine ⟨Nat.le_of_ble_eq_true rfl, ?_⟩; (conv => whnf)) | (refine ⟨fun _ => ?_, fun h => Bool.noConfusion h⟩; (conv => whnf)) | (refine ⟨fun h => Bool.noConfusion h, fun _ => ?_⟩; (conv => whnf)))))
  refine W_round ?_
  ((conv => whnf); (repeat (first | (refine ⟨rfl, ?_⟩; (conv => whnf)) | (refine ⟨fun _ => ?_, fun h => Bool.noConfusion h⟩; (conv => whnf)))))
  refine W_round ?_
  ((conv => whnf); (repeat (first | (refine ⟨rfl, ?_⟩; (conv => whnf)) | (refine ⟨Nat.le_of_ble_eq_true rfl, ?_⟩; (conv => whnf)) | (refine ⟨fun _ => ?_, fun h => Bool.noConfusion h⟩; (conv => whnf)))))
  refine call_pure (trow0_spec g.t.m) rfl rfl rfl ?_
  ((conv => whnf); (repeat (refine ⟨Nat.le_of_ble_eq_true rfl, ?_⟩; (conv => whnf))))
  refine call_pure (tcol0_spec f.t.m) rfl rfl rfl ?_
  (conv => whnf)
  refine call_pure (rdot_spec g_0 f_0) rfl rfl rfl ?_
  ((conv => whnf); (repeat (first | (refine ⟨(by kernel_rfl : chk _ _ = true), ?_⟩; (conv => whnf)) | (refine ⟨rfl, ?_⟩; (conv => whnf)) | (refine ⟨Nat.le_of_ble_eq_true rfl, ?_⟩; (conv => whnf)) | (refine ⟨⟨of_decide_eq_true rfl, of_decide_eq_true rfl⟩, ?_⟩; (conv => whnf)))))
  refine W_round ?_
  ((conv => whnf); (repeat (first | (refine ⟨rfl, ?_⟩; (conv => whnf)) | (refine ⟨Nat.le_of_ble_eq_true rfl, ?_⟩; (conv => whnf)) | (refine ⟨fun _ => ?_, fun h => Bool.noConfusion h⟩; (conv => whnf)))))
  refine call_pure (trow0_spec g.t.m) rfl rfl rfl ?_
  ((conv => whnf); (repeat (refine ⟨Nat.le_of_ble_eq_true rfl, ?_⟩; (conv => whnf))))
  refine call_pure (tcol1_spec f.t.m) rfl rfl rfl ?_
  (conv => whnf)
  refine call_pure (rdot_spec g_0 f_1) rfl rfl rfl ?_
  ((conv => whnf); (repeat (first | (refine ⟨(by kernel_rfl : chk _ _ = true), ?_⟩; (conv => whnf)) | (refine ⟨rfl, ?_⟩; (conv => whnf)) | (refine ⟨Nat.le_of_ble_eq_true rfl, ?_⟩; (conv => whnf)) | (refine ⟨⟨of_decide_eq_true rfl, of_decide_eq_true rfl⟩, ?_⟩; (conv => whnf)))))
  refine W_round ?_
  ((conv => whnf); (repeat (first | (refine ⟨rfl, ?_⟩; (conv => whnf)) | (refine ⟨Nat.le_of_ble_eq_true rfl, ?_⟩; (conv => whnf)) | (refine ⟨fun _ => ?_, fun h => Bool.noConfusion h⟩; (conv => whnf)))))
  refine call_pure (trow0_spec g.t.m) rfl rfl rfl ?_
  ((conv => whnf); (repeat (refine ⟨Nat.le_of_ble_eq_true rfl, ?_⟩; (conv => whnf))))
  refine call_pure (tcol2_spec f.t.m) rfl rfl rfl ?_
  (conv => whnf)
  refine call_pure (rdot_spec g_0 f_2) rfl rfl rfl ?_
  ((conv => whnf); (repeat (first | (refine ⟨(by kernel_rfl : chk _ _ = true), ?_⟩; (conv => whnf)) | (refine ⟨rfl, ?_⟩; (conv => whnf)) | (refine ⟨Nat.le_of_ble_eq_true rfl, ?_⟩; (conv => whnf)) | (refine ⟨⟨of_decide_eq_true rfl, of_decide_eq_true rfl⟩, ?_⟩; (conv => whnf)))))
  refine W_round ?_
  ((conv => whnf); (repeat (first | (refine ⟨rfl, ?_⟩; (conv => whnf)) | (refine ⟨fun h => Bool.noConfusion h, fun _ => ?_⟩; (conv => whnf)))))
  refine W_round ?_
  ((conv => whnf); (repeat (first | (refine ⟨rfl, ?_⟩; (conv => whnf)) | (refine ⟨fun _ => ?_, fun h => Bool.noConfusion h⟩; (conv => whnf)))))
  refine W_round ?_
  ((conv => whnf); (repeat (first | (refine ⟨rfl, ?_⟩; (conv => whnf)) | (refine ⟨Nat.le_of_ble_eq_true rfl, ?_⟩; (conv => whnf)) | (refine ⟨fun _ => ?_, fun h => Bool.noConfusion h⟩; (conv => whnf)))))
  refine call_pure (trow1_spec g.t.m) rfl rfl rfl ?_
  ((conv => whnf); (repeat (refine ⟨Nat.le_of_ble_eq_true rfl, ?_⟩; (conv => whnf))))
  refine call_pure (tcol0_spec f.t.m) rfl rfl rfl ?_
  (conv => whnf)
  refine call_pure (rdot_spec g_1 f_0) rfl rfl rfl ?_
  ((conv => whnf); (repeat (first | (refine ⟨(by kernel_rfl : chk _ _ = true), ?_⟩; (conv => whnf)) | (refine ⟨rfl, ?_⟩; (conv => whnf)) | (refine ⟨Nat.le_of_ble_eq_true rfl, ?_⟩; (conv => whnf)) | (refine ⟨⟨of_decide_eq_true rfl, of_decide_eq_true rfl⟩, ?_⟩; (conv => whnf)))))
  refine W_round ?_
  ((conv => whnf); (repeat (first | (refine ⟨rfl, ?_⟩; (conv => whnf)) | (refine ⟨Nat.le_of_ble_eq_true rfl, ?_⟩; (conv => whnf)) | (refine ⟨fun _ => ?_, fun h => Bool.noConfusion h⟩; (conv => whnf)))))
  refine call_pure (trow1_spec g.t.m) rfl rfl rfl ?_
  ((conv => whnf); (repeat (refine ⟨Nat.le_of_ble_eq_true rfl, ?_⟩; (conv => whnf))))
  refine call_pure (tcol1_spec f.t.m) rfl rfl rfl ?_
  (conv => whnf)
  refine call_pure (rdot_spec g_1 f_1) rfl rfl rfl ?_
  ((conv => whnf); (repeat (first | (refine ⟨(by kernel_rfl : chk _ _ = true), ?_⟩; (conv => whnf)) | (refine ⟨rfl, ?_⟩; (conv => whnf)) | (refine ⟨Nat.le_of_ble_eq_true rfl, ?_⟩; (conv => whnf)) | (refine ⟨⟨of_decide_eq_true rfl, of_decide_eq_true rfl⟩, ?_⟩; (conv => whnf)))))
  refine W_round ?_
  ((conv => whnf); (repeat (first | (refine ⟨rfl, ?_⟩; (conv => whnf)) | (refine ⟨Nat.le_of_ble_eq_true rfl, ?_⟩; (conv => whnf)) | (refine ⟨fun _ => ?_, fun h => Bool.noConfusion h⟩; (conv => whnf)))))
  refine call_pure (trow1_spec g.t.m) rfl rfl rfl ?_
  ((conv => whnf); (repeat (refine ⟨Nat.le_of_ble_eq_true rfl, ?_⟩; (conv => whnf))))
  refine call_pure (tcol2_spec f.t.m) rfl rfl rfl ?_
  (conv => whnf)
  refine call_pure (rdot_spec g_1 f_2) rfl rfl rfl ?_
  ((conv => whnf); (repeat (first | (refine ⟨(by kernel_rfl : chk _ _ = true), ?_⟩; (conv => whnf)) | (refine ⟨rfl, ?_⟩; (conv => whnf)) | (refine ⟨Nat.le_of_ble_eq_true rfl, ?_⟩; (conv => whnf)) | (refine ⟨⟨of_decide_eq_true rfl, of_decide_eq_true rfl⟩, ?_⟩; (conv => whnf)))))
  refine W_round ?_
  ((conv => whnf); (repeat (first | (refine ⟨rfl, ?_⟩; (conv => whnf)) | (refine ⟨fun h => Bool.noConfusion h, fun _ => ?_⟩; (conv => whnf)))))
  refine W_round ?_
  ((conv => whnf); (repeat (first | (refine ⟨rfl, ?_⟩; (conv => whnf)) | (refine ⟨fun _ => ?_, fun h => Bool.noConfusion h⟩; (conv => whnf)))))
  refine W_round ?_
  ((conv => whnf); (repeat (first | (refine ⟨rfl, ?_⟩; (conv => whnf)) | (refine ⟨Nat.le_of_ble_eq_true rfl, ?_⟩; (conv => whnf)) | (refine ⟨fun _ => ?_, fun h => Bool.noConfusion h⟩; (conv => whnf)))))
  refine call_pure (trow2_spec g.t.m) rfl rfl rfl ?_
  ((conv => whnf); (repeat (refine ⟨Nat.le_of_ble_eq_true rfl, ?_⟩; (conv => whnf))))
  refine call_pure (tcol0_spec f.t.m) rfl rfl rfl ?_
  (conv => whnf)
  refine call_pure (rdot_spec g_2 f_0) rfl rfl rfl ?_
  ((conv => whnf); (repeat (first | (refine ⟨(by kernel_rfl : chk _ _ = true), ?_⟩; (conv => whnf)) | (refine ⟨rfl, ?_⟩; (conv => whnf)) | (refine ⟨Nat.le_of_ble_eq_true rfl, ?_⟩; (conv => whnf)) | (refine ⟨⟨of_decide_eq_true rfl, of_decide_eq_true rfl⟩, ?_⟩; (conv => whnf)))))
  refine W_round ?_
  ((conv => whnf); (repeat (first | (refine ⟨rfl, ?_⟩; (conv => whnf)) | (refine ⟨Nat.le_of_ble_eq_true rfl, ?_⟩; (conv => whnf)) | (refine ⟨fun _ => ?_, fun h => Bool.noConfusion h⟩; (conv => whnf)))))
  refine call_pure (trow2_spec g.t.m) rfl rfl rfl ?_
  ((conv => whnf); (repeat (refine ⟨Nat.le_of_ble_eq_true rfl, ?_⟩; (conv => whnf))))
  refine call_pure (tcol1_spec f.t.m) rfl rfl rfl ?_
  (conv => whnf)
  refine call_pure (rdot_spec g_2 f_1) rfl rfl rfl ?_
  ((conv => whnf); (repeat (first | (refine ⟨(by kernel_rfl : chk _ _ = true), ?_⟩; (conv => whnf)) | (refine ⟨rfl, ?_⟩; (conv => whnf)) | (refine ⟨Nat.le_of_ble_eq_true rfl, ?_⟩; (conv => whnf)) | (refine ⟨⟨of_decide_eq_true rfl, of_decide_eq_true rfl⟩, ?_⟩; (conv => whnf)))))
  refine W_round ?_
  ((conv => whnf); (repeat (first | (refine ⟨rfl, ?_⟩; (conv => whnf)) | (refine ⟨Nat.le_of_ble_eq_true rfl, ?_⟩; (conv => whnf)) | (refine ⟨fun _ => ?_, fun h => Bool.noConfusion h⟩; (conv => whnf)))))
  refine call_pure (trow2_spec g.t.m) rfl rfl rfl ?_
  ((conv => whnf); (repeat (refine ⟨Nat.le_of_ble_eq_true rfl, ?_⟩; (conv => whnf))))
  refine call_pure (tcol2_spec f.t.m) rfl rfl rfl ?_
  (conv => whnf)
  refine call_pure (rdot_spec g_2 f_2) rfl rfl rfl ?_
  ((conv => whnf); (repeat (first | (refine ⟨(by kernel_rfl : chk _ _ = true), ?_⟩; (conv => whnf)) | (refine ⟨rfl, ?_⟩; (conv => whnf)) | (refine ⟨Nat.le_of_ble_eq_true rfl, ?_⟩; (conv => whnf)) | (refine ⟨⟨of_decide_eq_true rfl, of_decide_eq_true rfl⟩, ?_⟩; (conv => whnf)))))
  refine W_round ?_
  ((conv => whnf); (repeat (first | (refine ⟨rfl, ?_⟩; (conv => whnf)) | (refine ⟨fun h => Bool.noConfusion h, fun _ => ?_⟩; (conv => whnf)))))
  refine W_round ?_
  ((conv => whnf); (repeat (first | (refine ⟨rfl, ?_⟩; (conv => whnf)) | (refine ⟨Nat.le_of_ble_eq_true rfl, ?_⟩; (conv => whnf)) | (refine ⟨fun h => Bool.noConfusion h, fun _ => ?_⟩; (conv => whnf)))))
  refine call_pure (tcommon_spec (t := ⟨g.t.m.mul f.t.m, f.t.d * g.t.d⟩) (by show -1073741824 ≤ f.t.d * g.t.d ∧ f.t.d * g.t.d ≤ 1073741824; omega) (bmul.mono (by omega))) (by rw [wd]; rfl) rfl rfl ?_
  have hG0 : 0 < gcdF (f.t.d * g.t.d).natAbs (g.t.m.mul f.t.m).li := gcdF_pos (by omega) _
  have hG : ((gcdF (f.t.d * g.t.d).natAbs (g.t.m.mul f.t.m).li : Nat) : Int) ≠ 0 := by omega
  ((conv => whnf); (repeat (first | (refine ⟨rfl, ?_⟩; (conv => whnf)) | (refine ⟨Nat.le_of_ble_eq_true rfl, ?_⟩; (conv => whnf)))))
  refine ⟨hG, ?_⟩
  ((conv => whnf); (repeat (first | (refine ⟨rfl, ?_⟩; (conv => whnf)) | (refine ⟨Nat.le_of_ble_eq_true rfl, ?_⟩; (conv => whnf)))))
  refine W_round ?_
  ((conv => whnf); (repeat (first | (refine ⟨rfl, ?_⟩; (conv => whnf)) | (refine ⟨fun _ => ?_, fun h => Bool.noConfusion h⟩; (conv => whnf)))))
  refine W_round ?_
  ((conv => whnf); (repeat (first | (refine ⟨rfl, ?_⟩; (conv => whnf)) | (refine ⟨Nat.le_of_ble_eq_true rfl, ?_⟩; (conv => whnf)) | (refine ⟨⟨of_decide_eq_true rfl, of_decide_eq_true rfl⟩, ?_⟩; (conv => whnf)) | (refine ⟨fun _ => ?_, fun h => Bool.noConfusion h⟩; (conv => whnf)))))
  refine ⟨hG, ?_⟩
  ((conv => whnf); (repeat (first | (refine ⟨(by kernel_rfl : chk _ _ = true), ?_⟩; (conv => whnf)) | (refine ⟨rfl, ?_⟩; (conv => whnf)) | (refine ⟨Nat.le_of_ble_eq_true rfl, ?_⟩; (conv => whnf)) | (refine ⟨⟨of_decide_eq_true rfl, of_decide_eq_true rfl⟩, ?_⟩; (conv => whnf)))))
  refine W_round ?_
  ((conv => whnf); (repeat (first | (refine ⟨rfl, ?_⟩; (conv => whnf)) | (refine ⟨Nat.le_of_ble_eq_true rfl, ?_⟩; (conv => whnf)) | (refine ⟨⟨of_decide_eq_true rfl, of_decide_eq_true rfl⟩, ?_⟩; (conv => whnf)) | (refine ⟨fun _ => ?_, fun h => Bool.noConfusion h⟩; (conv => whnf)))))
  refine ⟨hG, ?_⟩
  ((conv => whnf); (repeat (first | (refine ⟨(by kernel_rfl : chk _ _ = true), ?_⟩; (conv => whnf)) | (refine ⟨rfl, ?_⟩; (conv => whnf)) | (refine ⟨Nat.le_of_ble_eq_true rfl, ?_⟩; (conv => whnf)) | (refine ⟨⟨of_decide_eq_true rfl, of_decide_eq_true rfl⟩, ?_⟩; (conv => whnf)))))
  refine W_round ?_
  ((conv => whnf); (repeat (first | (refine ⟨rfl, ?_⟩; (conv => whnf)) | (refine ⟨Nat.le_of_ble_eq_true rfl, ?_⟩; (conv => whnf)) | (refine ⟨⟨of_decide_eq_true rfl, of_decide_eq_true rfl⟩, ?_⟩; (conv => whnf)) | (refine ⟨fun _ => ?_, fun h => Bool.noConfusion h⟩; (conv => whnf)))))
  refine ⟨hG, ?_⟩
  ((conv => whnf); (repeat (first | (refine ⟨(by kernel_rfl : chk _ _ = true), ?_⟩; (conv => whnf)) | (refine ⟨rfl, ?_⟩; (conv => whnf)) | (refine ⟨Nat.le_of_ble_eq_true rfl, ?_⟩; (conv => whnf)) | (refine ⟨⟨of_decide_eq_true rfl, of_decide_eq_true rfl⟩, ?_⟩; (conv => whnf)))))
  refine W_round ?_
  ((conv => whnf); (repeat (first | (refine ⟨rfl, ?_⟩; (conv => whnf)) | (refine ⟨fun h => Bool.noConfusion h, fun _ => ?_⟩; (conv => whnf)))))
  refine W_round ?_
  ((conv => whnf); (repeat (first | (refine ⟨rfl, ?_⟩; (conv => whnf)) | (refine ⟨fun _ => ?_, fun h => Bool.noConfusion h⟩; (conv => whnf)))))
  refine W_round ?_
  ((conv => whnf); (repeat (first | (refine ⟨rfl, ?_⟩; (conv => whnf)) | (refine ⟨Nat.le_of_ble_eq_true rfl, ?_⟩; (conv => whnf)) | (refine ⟨⟨of_decide_eq_true rfl, of_decide_eq_true rfl⟩, ?_⟩; (conv => whnf)) | (refine ⟨fun _ => ?_, fun h => Bool.noConfusion h⟩; (conv => whnf)))))
  refine ⟨hG, ?_⟩
  ((conv => whnf); (repeat (first | (refine ⟨(by kernel_rfl : chk _ _ = true), ?_⟩; (conv => whnf)) | (refine ⟨rfl, ?_⟩; (conv => whnf)) | (refine ⟨Nat.le_of_ble_eq_true rfl, ?_⟩; (conv => whnf)) | (refine ⟨⟨of_decide_eq_true rfl, of_decide_eq_true rfl⟩, ?_⟩; (conv => whnf)))))
  refine W_round ?_
  ((conv => whnf); (repeat (first | (refine ⟨rfl, ?_⟩; (conv => whnf)) | (refine ⟨Nat.le_of_ble_eq_true rfl, ?_⟩; (conv => whnf)) | (refine ⟨⟨of_decide_eq_true rfl, of_decide_eq_true rfl⟩, ?_⟩; (conv => whnf)) | (refine ⟨fun _ => ?_, fun h => Bool.noConfusion h⟩; (conv => whnf)))))
  refine ⟨hG, ?_⟩
  ((conv => whnf); (repeat (first | (refine ⟨(by kernel_rfl : chk _ _ = true), ?_⟩; (conv => whnf)) | (refine ⟨rfl, ?_⟩; (conv => whnf)) | (refine ⟨Nat.le_of_ble_eq_true rfl, ?_⟩; (conv => whnf)) | (refine ⟨⟨of_decide_eq_true rfl, of_decide_eq_true rfl⟩, ?_⟩; (conv => whnf)))))
  refine W_round ?_
  ((conv => whnf); (repeat (first | (refine ⟨rfl, ?_⟩; (conv => whnf)) | (refine ⟨Nat.le_of_ble_eq_true rfl, ?_⟩; (conv => whnf)) | (refine ⟨⟨of_decide_eq_true rfl, of_decide_eq_true rfl⟩, ?_⟩; (conv => whnf)) | (refine ⟨fun _ => ?_, fun h => Bool.noConfusion h⟩; (conv => whnf)))))
  refine ⟨hG, ?_⟩
  ((conv => whnf); (repeat (first | (refine ⟨(by kernel_rfl : chk _ _ = true), ?_⟩; (conv => whnf)) | (refine ⟨rfl, ?_⟩; (conv => whnf)) | (refine ⟨Nat.le_of_ble_eq_true rfl, ?_⟩; (conv => whnf)) | (refine ⟨⟨of_decide_eq_true rfl, of_decide_eq_true rfl⟩, ?_⟩; (conv => whnf)))))
  refine W_round ?_
  ((conv => whnf); (repeat (first | (refine ⟨rfl, ?_⟩; (conv => whnf)) | (refine ⟨fun h => Bool.noConfusion h, fun _ => ?_⟩; (conv => whnf)))))
  refine W_round ?_
  ((conv => whnf); (repeat (first | (refine ⟨rfl, ?_⟩; (conv => whnf)) | (refine ⟨fun _ => ?_, fun h => Bool.noConfusion h⟩; (conv => whnf)))))
  refine W_round ?_
  ((conv => whnf); (repeat (first | (refine ⟨rfl, ?_⟩; (conv => whnf)) | (refine ⟨Nat.le_of_ble_eq_true rfl, ?_⟩; (conv => whnf)) | (refine ⟨⟨of_decide_eq_true rfl, of_decide_eq_true rfl⟩, ?_⟩; (conv => whnf)) | (refine ⟨fun _ => ?_, fun h => Bool.noConfusion h⟩; (conv => whnf)))))
  refine ⟨hG, ?_⟩
  ((conv => whnf); (repeat (first | (refine ⟨(by kernel_rfl : chk _ _ = true), ?_⟩; (conv => whnf)) | (refine ⟨rfl, ?_⟩; (conv => whnf)) | (refine ⟨Nat.le_of_ble_eq_true rfl, ?_⟩; (conv => whnf)) | (refine ⟨⟨of_decide_eq_true rfl, of_decide_eq_true rfl⟩, ?_⟩; (conv => whnf)))))
  refine W_round ?_
  ((conv => whnf); (repeat (first | (refine ⟨rfl, ?_⟩; (conv => whnf)) | (refine ⟨Nat.le_of_ble_eq_true rfl, ?_⟩; (conv => whnf)) | (refine ⟨⟨of_decide_eq_true rfl, of_decide_eq_true rfl⟩, ?_⟩; (conv => whnf)) | (refine ⟨fun _ => ?_, fun h => Bool.noConfusion h⟩; (conv => whnf)))))
  refine ⟨hG, ?_⟩
  ((conv => whnf); (repeat (first | (refine ⟨(by kernel_rfl : chk _ _ = true), ?_⟩; (conv => whnf)) | (refine ⟨rfl, ?_⟩; (conv => whnf)) | (refine ⟨Nat.le_of_ble_eq_true rfl, ?_⟩; (conv => whnf)) | (refine ⟨⟨of_decide_eq_true rfl, of_decide_eq_true rfl⟩, ?_⟩; (conv => whnf)))))
  refine W_round ?_
  ((conv => whnf); (repeat (first | (refine ⟨rfl, ?_⟩; (conv => whnf)) | (refine ⟨Nat.le_of_ble_eq_true rfl, ?_⟩; (conv => whnf)) | (refine ⟨⟨of_decide_eq_true rfl, of_decide_eq_true rfl⟩, ?_⟩; (conv => whnf)) | (refine ⟨fun _ => ?_, fun h => Bool.noConfusion h⟩; (conv => whnf)))))
  refine ⟨hG, ?_⟩
  ((conv => whnf); (repeat (first | (refine ⟨(by kernel_rfl : chk _ _ = true), ?_⟩; (conv => whnf)) | (refine ⟨rfl, ?_⟩; (conv => whnf)) | (refine ⟨Nat.le_of_ble_eq_true rfl, ?_⟩; (conv => whnf)) | (refine ⟨⟨of_decide_eq_true rfl, of_decide_eq_true rfl⟩, ?_⟩; (conv => whnf)))))
  refine W_round ?_
  ((conv => whnf); (repeat (first | (refine ⟨rfl, ?_⟩; (conv => whnf)) | (refine ⟨fun h => Bool.noConfusion h, fun _ => ?_⟩; (conv => whnf)))))
  refine W_round ?_
  ((conv => whnf); (repeat (first | (refine ⟨rfl, ?_⟩; (conv => whnf)) | (refine ⟨Nat.le_of_ble_eq_true rfl, ?_⟩; (conv => whnf)) | (refine ⟨fun h => Bool.noConfusion h, fun _ => ?_⟩; (conv => whnf)))))
  refine call_pure (ttimes_spec (m := g.t.m) (v := f.s) (gm.mono (by omega)) (fs.mono (by omega))) rfl rfl rfl ?_
  ((conv => whnf); (repeat (refine ⟨Nat.le_of_ble_eq_true rfl, ?_⟩; (conv => whnf))))
  refine call_pure (tdivided_spec (v := g.t.m.of f.s) (d := g.t.d) (bo.mono (by omega)) (by omega) hm) rfl rfl rfl ?_
  ((conv => whnf); (repeat (first | (refine ⟨(by kernel_rfl : chk _ _ = true), ?_⟩; (conv => whnf)) | (refine ⟨rfl, ?_⟩; (conv => whnf)) | (refine ⟨Nat.le_of_ble_eq_true rfl, ?_⟩; (conv => whnf)))))
  refine call_pure (radd_spec (a := (g.t.m.of f.s).div g.t.d) (b := g.s) ((div_bd bo).mono (by omega)) (gs.mono (by omega))) rfl rfl rfl ?_
  ((conv => whnf); (repeat (first | (refine ⟨(by kernel_rfl : chk _ _ = true), ?_⟩; (conv => whnf)) | (refine ⟨rfl, ?_⟩; (conv => whnf)) | (refine ⟨Nat.le_of_ble_eq_true rfl, ?_⟩; (conv => whnf)) | (refine ⟨fun _ => ?_, fun h => Bool.noConfusion h⟩; (conv => whnf)))))
  obtain ⟨k1, k2, k3, k4, k5, k6, k7, k8, k9⟩ := bmul
  have q (x : Int) (hx : -1875 ≤ x ∧ x ≤ 1875) : IntKind.i64.wrap (x.tdiv ((gcdF (f.t.d * g.t.d).natAbs (g.t.m.mul f.t.m).li : Nat) : Int)) = x.tdiv ((gcdF (f.t.d * g.t.d).natAbs (g.t.m.mul f.t.m).li : Nat) : Int) := wr (by have := tdiv_bd (b := ((gcdF (f.t.d * g.t.d).natAbs (g.t.m.mul f.t.m).li : Nat) : Int)) hx; omega)
  have qd : IntKind.i64.wrap ((IntKind.i64.wrap (f.t.d * g.t.d)).tdiv ((gcdF (f.t.d * g.t.d).natAbs (g.t.m.mul f.t.m).li : Nat) : Int)) = (f.t.d * g.t.d).tdiv ((gcdF (f.t.d * g.t.d).natAbs (g.t.m.mul f.t.m).li : Nat) : Int) := by rw [wd]; exact q _ (by omega)
  have eq13 := c10 (q _ k1) (q _ k2) (q _ k3) (q _ k4) (q _ k5) (q _ k6) (q _ k7) (q _ k8) (q _ k9) qd (((g.t.m.of f.s).div g.t.d).add g.s).cs
  refine call_pure (rright_spec hh) (congrArg (fun l => [SV.c true l]) eq13) rfl rfl ?_
  ((conv => whnf); (repeat (first | (refine ⟨rfl, ?_⟩; (conv => whnf)) | (refine ⟨Nat.le_of_ble_eq_true rfl, ?_⟩; (conv => whnf)) | (refine ⟨fun _ => ?_, fun h => Bool.noConfusion h⟩; (conv => whnf)) | (refine ⟨fun h => Bool.noConfusion h, fun _ => ?_⟩; (conv => whnf)))))
  refine retPure_ret rfl ?_
  exact congrArg (fun l => SV.tup [(true, l), (false, [.b true])]) eq13
end Go.Proofs.YtlbafapmhjfobaaGreatDoor
