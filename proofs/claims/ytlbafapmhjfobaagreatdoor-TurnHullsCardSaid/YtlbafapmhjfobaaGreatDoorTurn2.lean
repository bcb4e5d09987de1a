/-
  Contracts: what Valid, Apply, Plane, Back and After of the package turn compute.
-/
import Derived.Test.YtlbafapmhjfobaaGreatDoorTurn1
set_option linter.unusedVariables false
set_option linter.unusedSimpArgs false
namespace Go.Proofs.YtlbafapmhjfobaaGreatDoor
set_option maxRecDepth 100000
attribute [local irreducible] LoopW RngW retPure retFresh retBox retTurn
def idM : M3 := ⟨1, 0, 0, 0, 1, 0, 0, 0, 1⟩
/-- the package variables: turn.identity -/
def glT (g : Nat) : Option (List AV) :=
  match g with
  | 0 => some idM.cs
  | _ + 1 => none
structure Tn where
  m : M3
  d : Int
  deriving DecidableEq
def Tn.cs (t : Tn) : List AV := [.i t.m.a, .i t.m.b, .i t.m.c, .i t.m.d, .i t.m.e, .i t.m.f, .i t.m.g, .i t.m.h, .i t.m.i, .i t.d]
def Tn.ok (t : Tn) : Bool := decide (1 ≤ t.d) && (decide (t.d ≤ 25) && (withinI t.d t.m.li && ((t.m.mul t.m.tr == idM.scale (t.d * t.d)) && ((t.m.det == t.d * t.d * t.d) && (t.d.tdiv (gcdF t.d.toNat t.m.li) == t.d)))))
theorem eqv9 (x y : M3) : eqVs [.int .i64 x.a, .int .i64 x.b, .int .i64 x.c, .int .i64 x.d, .int .i64 x.e, .int .i64 x.f, .int .i64 x.g, .int .i64 x.h, .int .i64 x.i] [.int .i64 y.a, .int .i64 y.b, .int .i64 y.c, .int .i64 y.d, .int .i64 y.e, .int .i64 y.f, .int .i64 y.g, .int .i64 y.h, .int .i64 y.i] = (x == y) := by
  rw [Bool.eq_iff_iff]
  cases x; cases y
  simp [eqVs]
theorem within_mbd {m : M3} {k : Int} (h : withinI k m.li = true) : m.bd k := by
  have := withinI_bd h
  simp only [M3.li, List.mem_cons, List.not_mem_nil, or_false, forall_eq_or_imp, forall_eq] at this
  exact this
theorem M3.bd.mono {k l : Int} {m : M3} (h : m.bd k) (hk : k ≤ l) : m.bd l := by unfold M3.bd at *; omega
theorem tr_bd {m : M3} {k : Int} (h : m.bd k) : m.tr.bd k := by unfold M3.bd at *; simp only [M3.tr]; omega
theorem validT_spec (t : Tn) : Spec Tryz.prog glT 17 none [(true, t.cs)] (.c false [.b t.ok]) none := by
  refine spec_plain A17_comp Tryz.func17 Tryz.call17 fol Tryz.ntmps17 Tryz.results17 (argsB_spec rfl) (Nat.le_of_ble_eq_true rfl) (idf_c rfl) ?_
  ((conv => whnf); (repeat (first | (refine ⟨rfl, ?_⟩; (conv => whnf)) | (refine ⟨Nat.le_of_ble_eq_true rfl, ?_⟩; (conv => whnf)))))
  cases h1 : decide (t.d < 1)
  rotate_left
  · ((conv => whnf); (repeat (first | (refine ⟨fun _ => ?_, fun h => Bool.noConfusion h⟩; (conv => whnf)) | (refine ⟨fun h => Bool.noConfusion h, fun _ => ?_⟩; (conv => whnf)))))
    refine retPure_ret rfl ?_
    exact eqb (by simp at h1; simp [Tn.ok]; omega)
  ((conv => whnf); (repeat (first | (refine ⟨rfl, ?_⟩; (conv => whnf)) | (refine ⟨Nat.le_of_ble_eq_true rfl, ?_⟩; (conv => whnf)) | (refine ⟨fun _ => ?_, fun h => Bool.noConfusion h⟩; (conv => whnf)) | (refine ⟨fun h => Bool.noConfusion h, fun _ => ?_⟩; (conv => whnf)))))
  cases h2 : decide (25 < t.d)
  rotate_left
  · ((conv => whnf); (repeat (first | (refine ⟨fun _ => ?_, fun h => Bool.noConfusion h⟩; (conv => whnf)) | (refine ⟨fun h => Bool.noConfusion h, fun _ => ?_⟩; (conv => whnf)))))
    refine retPure_ret rfl ?_
    exact eqb (by simp at h2; simp [Tn.ok]; omega)
  ((conv => whnf); (repeat (first | (refine ⟨Nat.le_of_ble_eq_true rfl, ?_⟩; (conv => whnf)) | (refine ⟨fun _ => ?_, fun h => Bool.noConfusion h⟩; (conv => whnf)))))
  have h1' : 1 ≤ t.d := by simpa using h1
  have h2' : t.d ≤ 25 := by simpa using h2
  refine call_pure (mwithin_spec t.m (k := t.d) (by omega)) rfl rfl rfl ?_
  ((conv => whnf); (repeat (first | (refine ⟨fun _ => ?_, fun h => Bool.noConfusion h⟩; (conv => whnf)) | (refine ⟨fun h => Bool.noConfusion h, fun _ => ?_⟩; (conv => whnf)))))
  cases h3 : withinI t.d t.m.li
  · ((conv => whnf); (repeat (refine ⟨fun _ => ?_, fun h => Bool.noConfusion h⟩; (conv => whnf))))
    refine retPure_ret rfl ?_
    exact eqb (by simp [Tn.ok, h3])
  ((conv => whnf); (repeat (first | (refine ⟨Nat.le_of_ble_eq_true rfl, ?_⟩; (conv => whnf)) | (refine ⟨fun h => Bool.noConfusion h, fun _ => ?_⟩; (conv => whnf)))))
  have hb := within_mbd h3
  have hn : ((t.d.toNat : Nat) : Int) = t.d := by omega
  refine call_pure (reduced_spec (m := t.m) (d := t.d.toNat) (hb.mono (by omega)) (by omega)) (by rw [hn]; rfl) rfl rfl ?_
  ((conv => whnf); (repeat (first | (refine ⟨rfl, ?_⟩; (conv => whnf)) | (refine ⟨Nat.le_of_ble_eq_true rfl, ?_⟩; (conv => whnf)))))
  refine call_pure (tr_spec t.m) rfl rfl rfl ?_
  (conv => whnf)
  refine call_pure (mul_spec (m := t.m) (o := t.m.tr) (hb.mono (by omega)) ((tr_bd hb).mono (by omega))) rfl rfl rfl ?_
  ((conv => whnf); (repeat (first | (refine ⟨rfl, ?_⟩; (conv => whnf)) | (refine ⟨Nat.le_of_ble_eq_true rfl, ?_⟩; (conv => whnf)))))
  have hdd := mul_bd (x := t.d) (y := t.d) (k := 25) (l := 25) (by omega) (by omega)
  have hddd := mul_bd (x := t.d * t.d) (y := t.d) (k := 625) (l := 25) (by omega) (by omega)
  rw [wr (n := t.d * t.d) (by omega)]
  refine call_pure (scale_spec (m := idM) (s := t.d * t.d) (by unfold M3.bd idM; simp) (by omega)) rfl rfl rfl ?_
  ((conv => whnf); (repeat (refine ⟨rfl, ?_⟩; (conv => whnf))))
  refine ⟨fun hB => ?_, fun hB => ?_⟩
  · have hB2 : (t.m.mul t.m.tr == idM.scale (t.d * t.d)) = true := (eqv9 _ _).symm.trans hB
    rw [hB]; ((conv => whnf); (repeat (first | (refine ⟨Nat.le_of_ble_eq_true rfl, ?_⟩; (conv => whnf)) | (refine ⟨fun _ => ?_, fun h => Bool.noConfusion h⟩; (conv => whnf)))))
    refine call_pure (det_spec (m := t.m) (hb.mono (by omega))) rfl rfl rfl ?_
    ((conv => whnf); (repeat (first | (refine ⟨rfl, ?_⟩; (conv => whnf)) | (refine ⟨Nat.le_of_ble_eq_true rfl, ?_⟩; (conv => whnf)) | (refine ⟨fun _ => ?_, fun h => Bool.noConfusion h⟩; (conv => whnf)))))
    rw [wr (n := t.d * t.d) (by omega), wr (n := t.d * t.d * t.d) (by omega)]
    cases hdet : t.m.det == t.d * t.d * t.d
    · ((conv => whnf); (repeat (first | (refine ⟨(by kernel_rfl : chk _ _ = true), ?_⟩; (conv => whnf)) | (refine ⟨fun h => Bool.noConfusion h, fun _ => ?_⟩; (conv => whnf)))))
      refine retPure_ret rfl ?_
      exact eqb (by simp only [Tn.ok, hdet, Bool.false_and, Bool.and_false])
    · ((conv => whnf); (repeat (first | (refine ⟨(by kernel_rfl : chk _ _ = true), ?_⟩; (conv => whnf)) | (refine ⟨rfl, ?_⟩; (conv => whnf)) | (refine ⟨Nat.le_of_ble_eq_true rfl, ?_⟩; (conv => whnf)) | (refine ⟨fun _ => ?_, fun h => Bool.noConfusion h⟩; (conv => whnf)))))
      refine retPure_ret rfl ?_
      refine eqb ?_
      have e1 : decide (1 ≤ t.d) = true := by simpa using h1'
      have e2 : decide (t.d ≤ 25) = true := by simpa using h2'
      rw [hn]
      simp only [Tn.ok, e1, e2, h3, hB2, hdet, Bool.true_and]
  · have hB2 : (t.m.mul t.m.tr == idM.scale (t.d * t.d)) = false := (eqv9 _ _).symm.trans hB
    rw [hB]; ((conv => whnf); (repeat (first | (refine ⟨(by kernel_rfl : chk _ _ = true), ?_⟩; (conv => whnf)) | (refine ⟨fun h => Bool.noConfusion h, fun _ => ?_⟩; (conv => whnf)))))
    refine retPure_ret rfl ?_
    exact eqb (by simp only [Tn.ok, hB2, Bool.false_and, Bool.and_false])
end Go.Proofs.YtlbafapmhjfobaaGreatDoor
namespace Go.Proofs.YtlbafapmhjfobaaGreatDoor
set_option maxRecDepth 100000
attribute [local irreducible] LoopW RngW retPure retFresh retBox retTurn
structure Fr where
  t : Tn
  s : V3
  deriving DecidableEq
def Fr.cs (f : Fr) : List AV := [.i f.t.m.a, .i f.t.m.b, .i f.t.m.c, .i f.t.m.d, .i f.t.m.e, .i f.t.m.f, .i f.t.m.g, .i f.t.m.h, .i f.t.m.i, .i f.t.d, .i f.s.x, .i f.s.y, .i f.s.z]
def Fr.ok (f : Fr) : Bool := f.s.short && f.t.ok
theorem valid29_spec (f : Fr) : Spec Tryz.prog glT 29 none [(true, f.cs)] (.c false [.b f.ok]) none := by
  refine spec_plain A29_comp Tryz.func29 Tryz.call29 fol Tryz.ntmps29 Tryz.results29 (argsB_spec rfl) (Nat.le_of_ble_eq_true rfl) (idf_c rfl) ?_
  ((conv => whnf); (repeat (refine ⟨Nat.le_of_ble_eq_true rfl, ?_⟩; (conv => whnf))))
  refine call_pure (short_spec f.s) rfl rfl rfl ?_
  (conv => whnf)
  cases hs : f.s.short
  · ((conv => whnf); (repeat (refine ⟨fun h => Bool.noConfusion h, fun _ => ?_⟩; (conv => whnf))))
    refine retPure_ret rfl ?_
    exact eqb (by simp only [Fr.ok, hs, Bool.false_and])
  · ((conv => whnf); (repeat (first | (refine ⟨Nat.le_of_ble_eq_true rfl, ?_⟩; (conv => whnf)) | (refine ⟨fun _ => ?_, fun h => Bool.noConfusion h⟩; (conv => whnf)))))
    refine call_pure (validT_spec f.t) rfl rfl rfl ?_
    ((conv => whnf); (repeat (refine ⟨fun _ => ?_, fun h => Bool.noConfusion h⟩; (conv => whnf))))
    refine retPure_ret rfl ?_
    exact eqb (by simp only [Fr.ok, hs, Bool.true_and])
theorem Tn.ok_spec {t : Tn} (h : t.ok = true) : 1 ≤ t.d ∧ t.d ≤ 25 ∧ t.m.bd t.d ∧ t.m.mul t.m.tr = idM.scale (t.d * t.d) ∧ t.m.det = t.d * t.d * t.d := by
  simp only [Tn.ok, Bool.and_eq_true, decide_eq_true_eq, beq_iff_eq] at h
  exact ⟨h.1, h.2.1, within_mbd h.2.2.1, h.2.2.2.1, h.2.2.2.2.1⟩
theorem short_bd {v : V3} (h : v.short = true) : v.bd 96 := by
  have h1 := withinI_bd h
  exact ⟨h1 v.x (by simp), h1 v.y (by simp), h1 v.z (by simp)⟩
theorem dot_bd {a b : V3} {k l : Int} (ha : a.bd k) (hb : b.bd l) : -(3 * (k * l)) ≤ a.dot b ∧ a.dot b ≤ 3 * (k * l) := by
  have h1 := mul_bd ha.1 hb.1
  have h2 := mul_bd ha.2.1 hb.2.1
  have h3 := mul_bd ha.2.2 hb.2.2
  unfold V3.dot
  omega
theorem of_bd {m : M3} {v : V3} {k l : Int} (hm : m.bd k) (hv : v.bd l) : (m.of v).bd (3 * (k * l)) := ⟨dot_bd hm.r.1 hv, dot_bd hm.r.2.1 hv, dot_bd hm.r.2.2 hv⟩
theorem add_bd {a b : V3} {k l : Int} (ha : a.bd k) (hb : b.bd l) : (a.add b).bd (k + l) := by unfold V3.bd V3.add at *; simp only; omega
/-- turn.Apply -/
def apply (f : Fr) (v : V3) : V3 × Bool :=
  if f.ok && v.inB then
    let w := ((f.t.m.of v).div f.t.d).add f.s
    if (f.t.m.of v).mods f.t.d && w.inB then (w, true) else (⟨0, 0, 0⟩, false)
  else (⟨0, 0, 0⟩, false)
theorem apply_spec (f : Fr) (v : V3) : Spec Tryz.prog glT 8 none [(true, f.cs), (true, v.cs)] (.tup [(true, (apply f v).1.cs), (false, [.b (apply f v).2])]) none := by
  refine spec_plain A8_comp Tryz.func8 Tryz.call8 fol Tryz.ntmps8 Tryz.results8 (argsB_spec rfl) (Nat.le_of_ble_eq_true rfl) (idf_c rfl) ?_
  ((conv => whnf); (repeat (refine ⟨Nat.le_of_ble_eq_true rfl, ?_⟩; (conv => whnf))))
  refine call_pure (valid29_spec f) rfl rfl rfl ?_
  (conv => whnf)
  cases hf : f.ok
  · ((conv => whnf); (repeat (first | (refine ⟨rfl, ?_⟩; (conv => whnf)) | (refine ⟨Nat.le_of_ble_eq_true rfl, ?_⟩; (conv => whnf)) | (refine ⟨fun _ => ?_, fun h => Bool.noConfusion h⟩; (conv => whnf)) | (refine ⟨fun h => Bool.noConfusion h, fun _ => ?_⟩; (conv => whnf)))))
    refine retPure_ret rfl ?_
    simp only [apply, hf, Bool.false_and]; rfl
  ((conv => whnf); (repeat (first | (refine ⟨Nat.le_of_ble_eq_true rfl, ?_⟩; (conv => whnf)) | (refine ⟨fun _ => ?_, fun h => Bool.noConfusion h⟩; (conv => whnf)))))
  refine call_pure (in_spec v) rfl rfl rfl ?_
  ((conv => whnf); (repeat (first | (refine ⟨fun _ => ?_, fun h => Bool.noConfusion h⟩; (conv => whnf)) | (refine ⟨fun h => Bool.noConfusion h, fun _ => ?_⟩; (conv => whnf)))))
  cases hv : v.inB
  · ((conv => whnf); (repeat (first | (refine ⟨rfl, ?_⟩; (conv => whnf)) | (refine ⟨Nat.le_of_ble_eq_true rfl, ?_⟩; (conv => whnf)) | (refine ⟨fun _ => ?_, fun h => Bool.noConfusion h⟩; (conv => whnf)))))
    refine retPure_ret rfl ?_
    simp only [apply, hf, hv, Bool.and_false]; rfl
  ((conv => whnf); (repeat (first | (refine ⟨Nat.le_of_ble_eq_true rfl, ?_⟩; (conv => whnf)) | (refine ⟨fun h => Bool.noConfusion h, fun _ => ?_⟩; (conv => whnf)))))
  have hf' := hf
  simp only [Fr.ok, Bool.and_eq_true] at hf'
  obtain ⟨g1, g2, g3, _, _⟩ := Tn.ok_spec hf'.2
  have bv := inB_bd hv
  have bm : f.t.m.bd 25 := g3.mono (by omega)
  have bo := of_bd bm bv
  have bs := short_bd hf'.1
  refine call_pure (of_spec (bm.mono (by omega)) (bv.mono (by omega))) rfl rfl rfl ?_
  ((conv => whnf); (repeat (refine ⟨Nat.le_of_ble_eq_true rfl, ?_⟩; (conv => whnf))))
  refine call_pure (divided_spec (v := f.t.m.of v) (d := f.t.d) (bo.mono (by omega)) (by omega)) rfl rfl rfl ?_
  ((conv => whnf); (repeat (first | (refine ⟨(by kernel_rfl : chk _ _ = true), ?_⟩; (conv => whnf)) | (refine ⟨rfl, ?_⟩; (conv => whnf)) | (refine ⟨Nat.le_of_ble_eq_true rfl, ?_⟩; (conv => whnf)))))
  refine call_pure (add_spec (a := (f.t.m.of v).div f.t.d) (b := f.s) ((div_bd bo).mono (by omega)) (bs.mono (by omega))) rfl rfl rfl ?_
  ((conv => whnf); (repeat (first | (refine ⟨rfl, ?_⟩; (conv => whnf)) | (refine ⟨Nat.le_of_ble_eq_true rfl, ?_⟩; (conv => whnf)))))
  cases hm : (f.t.m.of v).mods f.t.d
  · ((conv => whnf); (repeat (first | (refine ⟨rfl, ?_⟩; (conv => whnf)) | (refine ⟨Nat.le_of_ble_eq_true rfl, ?_⟩; (conv => whnf)) | (refine ⟨fun _ => ?_, fun h => Bool.noConfusion h⟩; (conv => whnf)) | (refine ⟨fun h => Bool.noConfusion h, fun _ => ?_⟩; (conv => whnf)))))
    refine retPure_ret rfl ?_
    simp only [apply, hf, hv, hm, Bool.and_self, Bool.false_and]; rfl
  ((conv => whnf); (repeat (first | (refine ⟨Nat.le_of_ble_eq_true rfl, ?_⟩; (conv => whnf)) | (refine ⟨fun _ => ?_, fun h => Bool.noConfusion h⟩; (conv => whnf)))))
  refine call_pure (in_spec (((f.t.m.of v).div f.t.d).add f.s)) rfl rfl rfl ?_
  ((conv => whnf); (repeat (first | (refine ⟨fun _ => ?_, fun h => Bool.noConfusion h⟩; (conv => whnf)) | (refine ⟨fun h => Bool.noConfusion h, fun _ => ?_⟩; (conv => whnf)))))
  cases hw : (((f.t.m.of v).div f.t.d).add f.s).inB
  · ((conv => whnf); (repeat (first | (refine ⟨rfl, ?_⟩; (conv => whnf)) | (refine ⟨Nat.le_of_ble_eq_true rfl, ?_⟩; (conv => whnf)) | (refine ⟨fun _ => ?_, fun h => Bool.noConfusion h⟩; (conv => whnf)))))
    refine retPure_ret rfl ?_
    simp only [apply, hf, hv, hm, hw, Bool.and_self, Bool.and_false]; rfl
  ((conv => whnf); (repeat (first | (refine ⟨rfl, ?_⟩; (conv => whnf)) | (refine ⟨Nat.le_of_ble_eq_true rfl, ?_⟩; (conv => whnf)) | (refine ⟨fun h => Bool.noConfusion h, fun _ => ?_⟩; (conv => whnf)))))
  refine retPure_ret rfl ?_
  simp only [apply, hf, hv, hm, hw, Bool.and_self]; rfl
end Go.Proofs.YtlbafapmhjfobaaGreatDoor
namespace Go.Proofs.YtlbafapmhjfobaaGreatDoor
set_option maxRecDepth 100000
attribute [local irreducible] LoopW RngW retPure retFresh retBox retTurn
/-- turn.Plane -/
def planeT (f : Fr) (p : Pl) : Pl × Bool :=
  if f.ok && p.okB then
    let r := (f.t.m.of p.n).prim
    if r.2 == 0 then (⟨⟨0, 0, 0⟩, 0⟩, false) else
    if (f.t.d * p.b).tmod r.2 != 0 then (⟨⟨0, 0, 0⟩, 0⟩, false) else
    let q : Pl := ⟨r.1, (f.t.d * p.b).tdiv r.2 + r.1.dot f.s⟩
    if q.okB then (q, true) else (⟨⟨0, 0, 0⟩, 0⟩, false)
  else (⟨⟨0, 0, 0⟩, 0⟩, false)
theorem planeT_spec (f : Fr) (p : Pl) : Spec Tryz.prog glT 12 none [(true, f.cs), (true, p.cs)] (.tup [(true, (planeT f p).1.cs), (false, [.b (planeT f p).2])]) none := by
  refine spec_plain A12_comp Tryz.func12 Tryz.call12 fol Tryz.ntmps12 Tryz.results12 (argsB_spec rfl) (Nat.le_of_ble_eq_true rfl) (idf_c rfl) ?_
  ((conv => whnf); (repeat (refine ⟨Nat.le_of_ble_eq_true rfl, ?_⟩; (conv => whnf))))
  refine call_pure (valid29_spec f) rfl rfl rfl ?_
  (conv => whnf)
  cases hf : f.ok
  · ((conv => whnf); (repeat (first | (refine ⟨rfl, ?_⟩; (conv => whnf)) | (refine ⟨Nat.le_of_ble_eq_true rfl, ?_⟩; (conv => whnf)) | (refine ⟨fun _ => ?_, fun h => Bool.noConfusion h⟩; (conv => whnf)) | (refine ⟨fun h => Bool.noConfusion h, fun _ => ?_⟩; (conv => whnf)))))
    refine retPure_ret rfl ?_
    simp only [planeT, hf, Bool.false_and]; rfl
  ((conv => whnf); (repeat (first | (refine ⟨Nat.le_of_ble_eq_true rfl, ?_⟩; (conv => whnf)) | (refine ⟨fun _ => ?_, fun h => Bool.noConfusion h⟩; (conv => whnf)))))
  refine call_pure (valid_spec p) rfl rfl rfl ?_
  ((conv => whnf); (repeat (first | (refine ⟨fun _ => ?_, fun h => Bool.noConfusion h⟩; (conv => whnf)) | (refine ⟨fun h => Bool.noConfusion h, fun _ => ?_⟩; (conv => whnf)))))
  cases hv : p.okB
  · ((conv => whnf); (repeat (first | (refine ⟨rfl, ?_⟩; (conv => whnf)) | (refine ⟨Nat.le_of_ble_eq_true rfl, ?_⟩; (conv => whnf)) | (refine ⟨fun _ => ?_, fun h => Bool.noConfusion h⟩; (conv => whnf)))))
    refine retPure_ret rfl ?_
    simp only [planeT, hf, hv, Bool.and_false]; rfl
  ((conv => whnf); (repeat (first | (refine ⟨Nat.le_of_ble_eq_true rfl, ?_⟩; (conv => whnf)) | (refine ⟨fun h => Bool.noConfusion h, fun _ => ?_⟩; (conv => whnf)))))
  have hf' := hf
  simp only [Fr.ok, Bool.and_eq_true] at hf'
  obtain ⟨g1, g2, g3, _, _⟩ := Tn.ok_spec hf'.2
  obtain ⟨bn, _, bb⟩ := okB_bd hv
  have bm : f.t.m.bd 25 := g3.mono (by omega)
  have bo := of_bd bm bn
  have bp := prim_bd bo
  have bs := short_bd hf'.1
  have bd := mul_bd (x := f.t.d) (y := p.b) (k := 25) (l := 2097152) (by omega) bb
  refine call_pure (of_spec (v := p.n) (bm.mono (by omega)) (bn.mono (by omega))) rfl rfl rfl ?_
  (conv => whnf)
  refine call_pure (prim_spec (bo.mono (by omega))) rfl rfl rfl ?_
  ((conv => whnf); (repeat (first | (refine ⟨rfl, ?_⟩; (conv => whnf)) | (refine ⟨Nat.le_of_ble_eq_true rfl, ?_⟩; (conv => whnf)))))
  rw [wr (n := f.t.d * p.b) (by omega)]
  cases hg : (f.t.m.of p.n).prim.2 == 0
  rotate_left
  · ((conv => whnf); (repeat (first | (refine ⟨rfl, ?_⟩; (conv => whnf)) | (refine ⟨Nat.le_of_ble_eq_true rfl, ?_⟩; (conv => whnf)) | (refine ⟨fun _ => ?_, fun h => Bool.noConfusion h⟩; (conv => whnf)) | (refine ⟨fun h => Bool.noConfusion h, fun _ => ?_⟩; (conv => whnf)))))
    refine retPure_ret rfl ?_
    simp only [planeT, hf, hv, hg, Bool.and_self, if_true]; rfl
  have hg' : (f.t.m.of p.n).prim.2 ≠ 0 := by simpa using hg
  ((conv => whnf); (repeat (first | (refine ⟨rfl, ?_⟩; (conv => whnf)) | (refine ⟨fun _ => ?_, fun h => Bool.noConfusion h⟩; (conv => whnf)))))
  refine ⟨hg', ?_⟩; ((conv => whnf); (repeat (first | (refine ⟨rfl, ?_⟩; (conv => whnf)) | (refine ⟨fun _ => ?_, fun h => Bool.noConfusion h⟩; (conv => whnf)) | (refine ⟨fun h => Bool.noConfusion h, fun _ => ?_⟩; (conv => whnf)))))
  cases hr : (f.t.d * p.b).tmod (f.t.m.of p.n).prim.2 != 0
  rotate_left
  · ((conv => whnf); (repeat (first | (refine ⟨rfl, ?_⟩; (conv => whnf)) | (refine ⟨Nat.le_of_ble_eq_true rfl, ?_⟩; (conv => whnf)) | (refine ⟨fun _ => ?_, fun h => Bool.noConfusion h⟩; (conv => whnf)))))
    refine retPure_ret rfl ?_
    simp only [planeT, hf, hv, hg, hr, Bool.and_self, if_true]; rfl
  ((conv => whnf); (repeat (first | (refine ⟨rfl, ?_⟩; (conv => whnf)) | (refine ⟨Nat.le_of_ble_eq_true rfl, ?_⟩; (conv => whnf)) | (refine ⟨fun h => Bool.noConfusion h, fun _ => ?_⟩; (conv => whnf)))))
  refine ⟨hg', ?_⟩; ((conv => whnf); (repeat (refine ⟨Nat.le_of_ble_eq_true rfl, ?_⟩; (conv => whnf))))
  have bq := tdiv_bd (b := (f.t.m.of p.n).prim.2) bd
  have bt := dot_bd bp bs
  rw [wr (n := (f.t.d * p.b).tdiv (f.t.m.of p.n).prim.2) (by omega)]
  refine call_pure (dot_spec (a := (f.t.m.of p.n).prim.1) (b := f.s) (bp.mono (by omega)) (bs.mono (by omega))) rfl rfl rfl ?_
  ((conv => whnf); (repeat (first | (refine ⟨(by kernel_rfl : chk _ _ = true), ?_⟩; (conv => whnf)) | (refine ⟨rfl, ?_⟩; (conv => whnf)) | (refine ⟨Nat.le_of_ble_eq_true rfl, ?_⟩; (conv => whnf)))))
  rw [wr (n := (f.t.d * p.b).tdiv (f.t.m.of p.n).prim.2 + (f.t.m.of p.n).prim.1.dot f.s) (by omega)]
  refine call_pure (valid_spec ⟨(f.t.m.of p.n).prim.1, (f.t.d * p.b).tdiv (f.t.m.of p.n).prim.2 + (f.t.m.of p.n).prim.1.dot f.s⟩) rfl rfl rfl ?_
  (conv => whnf)
  cases hq : (Pl.okB ⟨(f.t.m.of p.n).prim.1, (f.t.d * p.b).tdiv (f.t.m.of p.n).prim.2 + (f.t.m.of p.n).prim.1.dot f.s⟩)
  · ((conv => whnf); (repeat (first | (refine ⟨rfl, ?_⟩; (conv => whnf)) | (refine ⟨Nat.le_of_ble_eq_true rfl, ?_⟩; (conv => whnf)) | (refine ⟨fun _ => ?_, fun h => Bool.noConfusion h⟩; (conv => whnf)))))
    refine retPure_ret rfl ?_
    simp only [planeT, hf, hv, hg, hr, hq, Bool.and_self, if_true]; rfl
  · ((conv => whnf); (repeat (first | (refine ⟨rfl, ?_⟩; (conv => whnf)) | (refine ⟨Nat.le_of_ble_eq_true rfl, ?_⟩; (conv => whnf)) | (refine ⟨fun h => Bool.noConfusion h, fun _ => ?_⟩; (conv => whnf)))))
    refine retPure_ret rfl ?_
    simp only [planeT, hf, hv, hg, hr, hq, Bool.and_self, if_true]; rfl
end Go.Proofs.YtlbafapmhjfobaaGreatDoor
namespace Go.Proofs.YtlbafapmhjfobaaGreatDoor
set_option maxRecDepth 100000
attribute [local irreducible] LoopW RngW retPure retFresh retBox retTurn
def fr0 : Fr := ⟨⟨⟨0, 0, 0, 0, 0, 0, 0, 0, 0⟩, 0⟩, ⟨0, 0, 0⟩⟩
def framed (m : M3) (d : Int) (s : V3) : Fr × Bool := if (Fr.ok ⟨⟨m, d⟩, s⟩) then (⟨⟨m, d⟩, s⟩, true) else (fr0, false)
theorem framed_spec (m : M3) (d : Int) (s : V3) : Spec Tryz.prog glT 54 none [(true, m.cs), (false, [.i d]), (true, s.cs)] (.tup [(true, (framed m d s).1.cs), (false, [.b (framed m d s).2])]) none := by
  refine spec_plain A54_comp Tryz.func54 Tryz.call54 fol Tryz.ntmps54 Tryz.results54 (argsB_spec rfl) (Nat.le_of_ble_eq_true rfl) (idf_c rfl) ?_
  ((conv => whnf); (repeat (first | (refine ⟨rfl, ?_⟩; (conv => whnf)) | (refine ⟨Nat.le_of_ble_eq_true rfl, ?_⟩; (conv => whnf)))))
  refine call_pure (valid29_spec ⟨⟨m, d⟩, s⟩) rfl rfl rfl ?_
  (conv => whnf)
  cases hf : Fr.ok ⟨⟨m, d⟩, s⟩
  · ((conv => whnf); (repeat (first | (refine ⟨rfl, ?_⟩; (conv => whnf)) | (refine ⟨Nat.le_of_ble_eq_true rfl, ?_⟩; (conv => whnf)) | (refine ⟨fun _ => ?_, fun h => Bool.noConfusion h⟩; (conv => whnf)))))
    refine retPure_ret rfl ?_
    simp only [framed, hf]; rfl
  · ((conv => whnf); (repeat (first | (refine ⟨rfl, ?_⟩; (conv => whnf)) | (refine ⟨Nat.le_of_ble_eq_true rfl, ?_⟩; (conv => whnf)) | (refine ⟨fun h => Bool.noConfusion h, fun _ => ?_⟩; (conv => whnf)))))
    refine retPure_ret rfl ?_
    simp only [framed, hf, if_true]; rfl

def back (f : Fr) : Fr × Bool :=
  if f.ok then (if (f.t.m.tr.of f.s).mods f.t.d then framed f.t.m.tr f.t.d (V3.sub ⟨0, 0, 0⟩ ((f.t.m.tr.of f.s).div f.t.d)) else (fr0, false)) else (fr0, false)
theorem back_spec (f : Fr) : Spec Tryz.prog glT 21 none [(true, f.cs)] (.tup [(true, (back f).1.cs), (false, [.b (back f).2])]) none := by
  refine spec_plain A21_comp Tryz.func21 Tryz.call21 fol Tryz.ntmps21 Tryz.results21 (argsB_spec rfl) (Nat.le_of_ble_eq_true rfl) (idf_c rfl) ?_
  ((conv => whnf); (repeat (refine ⟨Nat.le_of_ble_eq_true rfl, ?_⟩; (conv => whnf))))
  refine call_pure (valid29_spec f) rfl rfl rfl ?_
  (conv => whnf)
  cases hf : f.ok
  · ((conv => whnf); (repeat (first | (refine ⟨rfl, ?_⟩; (conv => whnf)) | (refine ⟨Nat.le_of_ble_eq_true rfl, ?_⟩; (conv => whnf)) | (refine ⟨fun _ => ?_, fun h => Bool.noConfusion h⟩; (conv => whnf)))))
    refine retPure_ret rfl ?_
    simp only [back, hf]; rfl
  ((conv => whnf); (repeat (first | (refine ⟨Nat.le_of_ble_eq_true rfl, ?_⟩; (conv => whnf)) | (refine ⟨fun h => Bool.noConfusion h, fun _ => ?_⟩; (conv => whnf)))))
  have hf' := hf
  simp only [Fr.ok, Bool.and_eq_true] at hf'
  obtain ⟨g1, g2, g3, _, _⟩ := Tn.ok_spec hf'.2
  have bs := short_bd hf'.1
  have bm : f.t.m.tr.bd 25 := tr_bd (g3.mono (by omega))
  have bo := of_bd bm bs
  refine call_pure (tr_spec f.t.m) rfl rfl rfl ?_
  ((conv => whnf); (repeat (first | (refine ⟨rfl, ?_⟩; (conv => whnf)) | (refine ⟨Nat.le_of_ble_eq_true rfl, ?_⟩; (conv => whnf)))))
  refine call_pure (of_spec (m := f.t.m.tr) (v := f.s) (bm.mono (by omega)) (bs.mono (by omega))) rfl rfl rfl ?_
  ((conv => whnf); (repeat (refine ⟨Nat.le_of_ble_eq_true rfl, ?_⟩; (conv => whnf))))
  refine call_pure (divided_spec (v := f.t.m.tr.of f.s) (d := f.t.d) (bo.mono (by omega)) (by omega)) rfl rfl rfl ?_
  ((conv => whnf); (repeat (first | (refine ⟨(by kernel_rfl : chk _ _ = true), ?_⟩; (conv => whnf)) | (refine ⟨rfl, ?_⟩; (conv => whnf)) | (refine ⟨Nat.le_of_ble_eq_true rfl, ?_⟩; (conv => whnf)))))
  cases hm : (f.t.m.tr.of f.s).mods f.t.d
  · ((conv => whnf); (repeat (first | (refine ⟨rfl, ?_⟩; (conv => whnf)) | (refine ⟨Nat.le_of_ble_eq_true rfl, ?_⟩; (conv => whnf)) | (refine ⟨fun _ => ?_, fun h => Bool.noConfusion h⟩; (conv => whnf)))))
    refine retPure_ret rfl ?_
    simp only [back, hf, hm, if_true]; rfl
  ((conv => whnf); (repeat (first | (refine ⟨Nat.le_of_ble_eq_true rfl, ?_⟩; (conv => whnf)) | (refine ⟨fun h => Bool.noConfusion h, fun _ => ?_⟩; (conv => whnf)))))
  refine call_pure (sub_spec (a := ⟨0, 0, 0⟩) (b := (f.t.m.tr.of f.s).div f.t.d) (bd0 (by omega)) ((div_bd bo).mono (by omega))) rfl rfl rfl ?_
  (conv => whnf)
  refine call_pure (framed_spec f.t.m.tr f.t.d (V3.sub ⟨0, 0, 0⟩ ((f.t.m.tr.of f.s).div f.t.d))) rfl rfl rfl ?_
  ((conv => whnf); (repeat (first | (refine ⟨(by kernel_rfl : chk _ _ = true), ?_⟩; (conv => whnf)) | (refine ⟨rfl, ?_⟩; (conv => whnf)) | (refine ⟨Nat.le_of_ble_eq_true rfl, ?_⟩; (conv => whnf)))))
  refine retPure_ret rfl ?_
  simp only [back, hf, hm, if_true]; rfl
end Go.Proofs.YtlbafapmhjfobaaGreatDoor
namespace Go.Proofs.YtlbafapmhjfobaaGreatDoor
set_option maxRecDepth 100000
attribute [local irreducible] LoopW RngW retPure retFresh retBox retTurn
def after (f g : Fr) : Fr × Bool :=
  if f.ok && g.ok then
    (if (g.t.m.of f.s).mods g.t.d then
      framed ((g.t.m.mul f.t.m).divs (gcdF (f.t.d * g.t.d).toNat (g.t.m.mul f.t.m).li)) ((f.t.d * g.t.d).tdiv (gcdF (f.t.d * g.t.d).toNat (g.t.m.mul f.t.m).li)) (((g.t.m.of f.s).div g.t.d).add g.s)
    else (fr0, false))
  else (fr0, false)
theorem mul_mbd {m o : M3} {k l : Int} (hm : m.bd k) (ho : o.bd l) : (m.mul o).bd (3 * (k * l)) := by
  obtain ⟨g1, g2, g3, g4, g5, g6, g7, g8, g9⟩ := ho
  have c0 : o.c0.bd l := ⟨g1, g4, g7⟩
  have c1 : o.c1.bd l := ⟨g2, g5, g8⟩
  have c2 : o.c2.bd l := ⟨g3, g6, g9⟩
  obtain ⟨r0, r1, r2⟩ := hm.r
  exact ⟨dot_bd r0 c0, dot_bd r0 c1, dot_bd r0 c2, dot_bd r1 c0, dot_bd r1 c1, dot_bd r1 c2, dot_bd r2 c0, dot_bd r2 c1, dot_bd r2 c2⟩
theorem after_spec (f g : Fr) : Spec Tryz.prog glT 22 none [(true, f.cs), (true, g.cs)] (.tup [(true, (after f g).1.cs), (false, [.b (after f g).2])]) none := by
  refine spec_plain A22_comp Tryz.func22 Tryz.call22 fol Tryz.ntmps22 Tryz.results22 (argsB_spec rfl) (Nat.le_of_ble_eq_true rfl) (idf_c rfl) ?_
  ((conv => whnf); (repeat (refine ⟨Nat.le_of_ble_eq_true rfl, ?_⟩; (conv => whnf))))
  refine call_pure (valid29_spec f) rfl rfl rfl ?_
  (conv => whnf)
  cases hf : f.ok
  · ((conv => whnf); (repeat (first | (refine ⟨rfl, ?_⟩; (conv => whnf)) | (refine ⟨Nat.le_of_ble_eq_true rfl, ?_⟩; (conv => whnf)) | (refine ⟨fun _ => ?_, fun h => Bool.noConfusion h⟩; (conv => whnf)) | (refine ⟨fun h => Bool.noConfusion h, fun _ => ?_⟩; (conv => whnf)))))
    refine retPure_ret rfl ?_
    simp only [after, hf, Bool.false_and]; rfl
  ((conv => whnf); (repeat (first | (refine ⟨Nat.le_of_ble_eq_true rfl, ?_⟩; (conv => whnf)) | (refine ⟨fun _ => ?_, fun h => Bool.noConfusion h⟩; (conv => whnf)))))
  refine call_pure (valid29_spec g) rfl rfl rfl ?_
  ((conv => whnf); (repeat (first | (refine ⟨fun _ => ?_, fun h => Bool.noConfusion h⟩; (conv => whnf)) | (refine ⟨fun h => Bool.noConfusion h, fun _ => ?_⟩; (conv => whnf)))))
  cases hg : g.ok
  · ((conv => whnf); (repeat (first | (refine ⟨rfl, ?_⟩; (conv => whnf)) | (refine ⟨Nat.le_of_ble_eq_true rfl, ?_⟩; (conv => whnf)) | (refine ⟨fun _ => ?_, fun h => Bool.noConfusion h⟩; (conv => whnf)))))
    refine retPure_ret rfl ?_
    simp only [after, hf, hg, Bool.and_false]; rfl
  ((conv => whnf); (repeat (first | (refine ⟨rfl, ?_⟩; (conv => whnf)) | (refine ⟨Nat.le_of_ble_eq_true rfl, ?_⟩; (conv => whnf)) | (refine ⟨fun h => Bool.noConfusion h, fun _ => ?_⟩; (conv => whnf)))))
  have hf' := hf
  have hg' := hg
  simp only [Fr.ok, Bool.and_eq_true] at hf' hg'
  obtain ⟨f1, f2, f3, _, _⟩ := Tn.ok_spec hf'.2
  obtain ⟨g1, g2, g3, _, _⟩ := Tn.ok_spec hg'.2
  have fs := short_bd hf'.1
  have gs := short_bd hg'.1
  have fm : f.t.m.bd 25 := f3.mono (by omega)
  have gm : g.t.m.bd 25 := g3.mono (by omega)
  have bo := of_bd gm fs
  have bmul := mul_mbd gm fm
  have bdd := mul_bd (x := f.t.d) (y := g.t.d) (k := 25) (l := 25) (by omega) (by omega)
  have hpos : 0 < f.t.d * g.t.d := Int.mul_pos (by omega) (by omega)
  have hn : (((f.t.d * g.t.d).toNat : Nat) : Int) = f.t.d * g.t.d := by omega
  refine call_pure (of_spec (m := g.t.m) (v := f.s) (gm.mono (by omega)) (fs.mono (by omega))) rfl rfl rfl ?_
  ((conv => whnf); (repeat (refine ⟨Nat.le_of_ble_eq_true rfl, ?_⟩; (conv => whnf))))
  refine call_pure (divided_spec (v := g.t.m.of f.s) (d := g.t.d) (bo.mono (by omega)) (by omega)) rfl rfl rfl ?_
  ((conv => whnf); (repeat (first | (refine ⟨(by kernel_rfl : chk _ _ = true), ?_⟩; (conv => whnf)) | (refine ⟨rfl, ?_⟩; (conv => whnf)) | (refine ⟨Nat.le_of_ble_eq_true rfl, ?_⟩; (conv => whnf)))))
  cases hm : (g.t.m.of f.s).mods g.t.d
  · ((conv => whnf); (repeat (first | (refine ⟨rfl, ?_⟩; (conv => whnf)) | (refine ⟨Nat.le_of_ble_eq_true rfl, ?_⟩; (conv => whnf)) | (refine ⟨fun _ => ?_, fun h => Bool.noConfusion h⟩; (conv => whnf)))))
    refine retPure_ret rfl ?_
    simp only [after, hf, hg, hm, Bool.and_self, if_true]; rfl
  ((conv => whnf); (repeat (first | (refine ⟨Nat.le_of_ble_eq_true rfl, ?_⟩; (conv => whnf)) | (refine ⟨fun h => Bool.noConfusion h, fun _ => ?_⟩; (conv => whnf)))))
  refine call_pure (mul_spec (m := g.t.m) (o := f.t.m) (gm.mono (by omega)) (fm.mono (by omega))) rfl rfl rfl ?_
  ((conv => whnf); (repeat (first | (refine ⟨rfl, ?_⟩; (conv => whnf)) | (refine ⟨Nat.le_of_ble_eq_true rfl, ?_⟩; (conv => whnf)))))
  rw [wr (n := f.t.d * g.t.d) (by omega)]
  refine call_pure (reduced_spec (m := g.t.m.mul f.t.m) (d := (f.t.d * g.t.d).toNat) (bmul.mono (by omega)) (by omega)) (by rw [hn]; rfl) rfl rfl ?_
  ((conv => whnf); (repeat (first | (refine ⟨(by kernel_rfl : chk _ _ = true), ?_⟩; (conv => whnf)) | (refine ⟨rfl, ?_⟩; (conv => whnf)) | (refine ⟨Nat.le_of_ble_eq_true rfl, ?_⟩; (conv => whnf)))))
  refine call_pure (add_spec (a := (g.t.m.of f.s).div g.t.d) (b := g.s) ((div_bd bo).mono (by omega)) (gs.mono (by omega))) rfl rfl rfl ?_
  (conv => whnf)
  rw [hn]
  refine call_pure (framed_spec ((g.t.m.mul f.t.m).divs (gcdF (f.t.d * g.t.d).toNat (g.t.m.mul f.t.m).li)) ((f.t.d * g.t.d).tdiv (gcdF (f.t.d * g.t.d).toNat (g.t.m.mul f.t.m).li)) (((g.t.m.of f.s).div g.t.d).add g.s)) rfl rfl rfl ?_
  ((conv => whnf); (repeat (first | (refine ⟨(by kernel_rfl : chk _ _ = true), ?_⟩; (conv => whnf)) | (refine ⟨rfl, ?_⟩; (conv => whnf)) | (refine ⟨Nat.le_of_ble_eq_true rfl, ?_⟩; (conv => whnf)))))
  refine retPure_ret rfl ?_
  simp only [after, hf, hg, hm, Bool.and_self, if_true]; rfl
end Go.Proofs.YtlbafapmhjfobaaGreatDoor
