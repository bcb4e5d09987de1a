/-
  Contracts: the reference's made frames; the law's examples hold.
-/
import Derived.Test.YtlbafapmhjfobaaGreatDoorRef3
set_option linter.unusedVariables false
set_option linter.unusedSimpArgs false
namespace Go.Proofs.YtlbafapmhjfobaaGreatDoor
set_option maxRecDepth 100000
attribute [local irreducible] LoopW LoopY RngW retPure retFresh retBox retTurn
variable {gl : Nat → Option (List AV)}
def slantT (n : Int) : Tn := if n = 0 then ⟨⟨3, -4, 0, 4, 3, 0, 0, 0, 5⟩, 5⟩ else if n = 1 then ⟨⟨1, -2, 2, 2, -1, -2, 2, 2, 1⟩, 3⟩ else if n = 2 then ⟨⟨2, 3, 6, 3, -6, 2, 6, 2, -3⟩, 7⟩ else ⟨⟨1, 0, 0, 0, 1, 0, 0, 0, 1⟩, 1⟩
def slantL : List Tn := [⟨⟨3, -4, 0, 4, 3, 0, 0, 0, 5⟩, 5⟩, ⟨⟨1, -2, 2, 2, -1, -2, 2, 2, 1⟩, 3⟩, ⟨⟨2, 3, 6, 3, -6, 2, 6, 2, -3⟩, 7⟩, ⟨⟨1, 0, 0, 0, 1, 0, 0, 0, 1⟩, 1⟩]
theorem slantT_mem (n : Int) : slantT n ∈ slantL := by
  unfold slantT slantL
  split
  · simp
  · split
    · simp
    · split <;> simp
theorem slant_spec (n : Int) : Spec Tryz.prog gl 24 none [(false, [.i n])] (.c true (slantT n).cs) none := by
  refine spec_plain A24_comp Tryz.func24 Tryz.call24 fol Tryz.ntmps24 Tryz.results24 (argsB_spec rfl) (Nat.le_of_ble_eq_true rfl) (idf_c rfl) ?_
  ((conv => whnf); (repeat (refine ⟨rfl, ?_⟩; (conv => whnf))))
  refine ⟨fun h => ?_, fun h => ?_⟩
  · have h0 : n = 0 := by simpa using h
    subst h0
    ((conv => whnf); (repeat (first | (refine ⟨rfl, ?_⟩; (conv => whnf)) | (refine ⟨Nat.le_of_ble_eq_true rfl, ?_⟩; (conv => whnf)))))
    exact retPure_ret rfl rfl
  · have h0 : ¬ n = 0 := by simpa using h
    ((conv => whnf); (repeat (refine ⟨rfl, ?_⟩; (conv => whnf))))
    refine ⟨fun h => ?_, fun h => ?_⟩
    · have h1 : n = 1 := by simpa using h
      subst h1
      ((conv => whnf); (repeat (first | (refine ⟨rfl, ?_⟩; (conv => whnf)) | (refine ⟨Nat.le_of_ble_eq_true rfl, ?_⟩; (conv => whnf)))))
      exact retPure_ret rfl rfl
    · have h1 : ¬ n = 1 := by simpa using h
      ((conv => whnf); (repeat (refine ⟨rfl, ?_⟩; (conv => whnf))))
      refine ⟨fun h => ?_, fun h => ?_⟩
      · have h2 : n = 2 := by simpa using h
        subst h2
        ((conv => whnf); (repeat (first | (refine ⟨rfl, ?_⟩; (conv => whnf)) | (refine ⟨Nat.le_of_ble_eq_true rfl, ?_⟩; (conv => whnf)))))
        exact retPure_ret rfl rfl
      · have h2 : ¬ n = 2 := by simpa using h
        ((conv => whnf); (repeat (first | (refine ⟨rfl, ?_⟩; (conv => whnf)) | (refine ⟨Nat.le_of_ble_eq_true rfl, ?_⟩; (conv => whnf)))))
        refine retPure_ret rfl ?_
        rw [slantT, if_neg h0, if_neg h1, if_neg h2]
        rfl
def tget (k : Nat) : Tn := allT.getD k ⟨idM, 1⟩
def frT (t : Tn) : Fr := ⟨t, ⟨0, 0, 0⟩⟩
theorem slant_ok : ∀ a ∈ slantL, (frT a).ok = true := by decide +kernel
theorem all_ok : ∀ k : Fin 24, (frT (tget k.val)).ok = true ∧ (tget k.val).d = 1 := by decide +kernel
theorem raft_ok : ∀ a ∈ slantL, ∀ k : Fin 24, (frT (raft a (tget k.val))).ok = true := by decide +kernel
theorem tget_cs {k : Nat} (h : k < 24) : (allT.map Tn.cs).getD k [] = (tget k).cs := by
  have : k < allT.length := h
  simp [tget, List.getD, this]
/-- the frame that some numbers make -/
def frameV (l : List Int) : Fr := ⟨raft (slantT (nextV l 0 8)) (tget (nextV l (nextAt l 0) 24).toNat), vecV l (nextAt l (nextAt l 0)) 4⟩
theorem of_zero (m : M3) : m.of ⟨0, 0, 0⟩ = ⟨0, 0, 0⟩ := by simp [M3.of, V3.dot]
theorem frames_spec {l : List Int} : Spec Tryz.prog gl 5 none [(false, [.li 1 (ics l)])] (.c true (frameV l).cs) none := by
  refine spec_plain A5_comp Tryz.func5 Tryz.call5 fol Tryz.ntmps5 Tryz.results5 (argsB_spec rfl) (Nat.le_of_ble_eq_true rfl) (idf_c rfl) ?_
  have hp : ∀ m, ∀ p ∈ [(false, [AV.ptr 0 0]), (false, [AV.i m])], ∀ x ∈ p.2, x.pers = true ∨ ∃ o, x = .ptr 0 o := by
    intro m p hp x hx
    simp at hp
    rcases hp with rfl | rfl
    · simp at hx; subst hx; exact .inr ⟨0, rfl⟩
    · simp at hx; subst hx; exact .inl rfl
  have hin : ∀ m, ∃ p ∈ [(false, [AV.ptr 0 0]), (false, [AV.i m])], ∃ o, AV.ptr 0 o ∈ p.2 := fun m => ⟨(false, [.ptr 0 0]), List.mem_cons_self, 0, List.mem_cons_self⟩
  have a1 := nextAt_le l 0
  have a2 := nextAt_le l (nextAt l 0)
  have v2 := nextV_bd (xs := l) (a := nextAt l 0) (m := 24) (by omega)
  obtain ⟨k, hk⟩ : ∃ k : Nat, nextV l (nextAt l 0) 24 = (k : Int) := ⟨(nextV l (nextAt l 0) 24).toNat, by omega⟩
  have hk24 : k < 24 := by omega
  have hs := slantT_mem (nextV l 0 8)
  have hg := all_ok ⟨k, hk24⟩
  have hh := raft_ok _ hs ⟨k, hk24⟩
  have hfr : frameV l = ⟨raft (slantT (nextV l 0 8)) (tget k), vecV l (nextAt l (nextAt l 0)) 4⟩ := by rw [frameV, hk]; rfl
  rw [hfr]
  (conv => whnf)
  refine call_fresh rall_spec rfl rfl rfl (fun x hx => by simp [SV.cells] at hx; subst hx; exact .inr ⟨10, _, rfl, rfl⟩) ?_
  (conv => whnf)
  refine call_box 4 (next_spec (m := 8) (xs := l) (at_ := 0) (by omega) (by omega)) rfl rfl (hp _) (hin _) rfl rfl rfl ?_
  (conv => whnf)
  refine call_pure (slant_spec _) rfl rfl rfl ?_
  ((conv => whnf); (repeat (first | (refine ⟨rfl, ?_⟩; (conv => whnf)) | (refine ⟨Nat.le_of_ble_eq_true rfl, ?_⟩; (conv => whnf)))))
  refine call_box 4 (next_spec (m := 24) (xs := l) (at_ := nextAt l 0) (by omega) (by omega)) rfl rfl (hp _) (hin _) rfl rfl rfl ?_
  ((conv => whnf); (repeat (refine ⟨rfl, ?_⟩; (conv => whnf))))
  rw [hk]
  refine ⟨⟨by omega, by simp [allT]; omega⟩, ?_⟩
  ((conv => whnf); (repeat (refine ⟨rfl, ?_⟩; (conv => whnf))))
  refine ⟨by simp [allT]; omega, Nat.le_of_ble_eq_true rfl, ?_⟩
  have e : (List.map Tn.cs allT).getD (k : Int).toNat [] = (tget k).cs := tget_cs hk24
  rw [e]
  ((conv => whnf); (repeat (first | (refine ⟨rfl, ?_⟩; (conv => whnf)) | (refine ⟨Nat.le_of_ble_eq_true rfl, ?_⟩; (conv => whnf)))))
  have hm : ((frT (tget k)).t.m.of (frT (slantT (nextV l 0 8))).s).mods (frT (tget k)).t.d = true := by
    simp only [frT, of_zero, hg.2]
    decide
  refine call_pure (rafter_spec (f := frT (slantT (nextV l 0 8))) (g := frT (tget k)) (slant_ok _ hs) hg.1 hm ?_) rfl rfl rfl ?_
  · simp only [frT, of_zero, hg.2]
    exact hh
  ((conv => whnf); (repeat (first | (refine ⟨rfl, ?_⟩; (conv => whnf)) | (refine ⟨Nat.le_of_ble_eq_true rfl, ?_⟩; (conv => whnf)))))
  refine call_box 4 (vec_spec (k := 4) (xs := l) (a := nextAt l (nextAt l 0)) (by omega) (by omega)) rfl rfl (hp _) (hin _) rfl rfl rfl ?_
  ((conv => whnf); (repeat (first | (refine ⟨rfl, ?_⟩; (conv => whnf)) | (refine ⟨Nat.le_of_ble_eq_true rfl, ?_⟩; (conv => whnf)))))
  exact retPure_ret rfl rfl
end Go.Proofs.YtlbafapmhjfobaaGreatDoor
namespace Go.Proofs.YtlbafapmhjfobaaGreatDoor
set_option maxRecDepth 100000
attribute [local irreducible] LoopW LoopY RngW retPure retFresh retBox retTurn
theorem lvec_spec {gl : Nat → Option (List AV)} (v : V3) : Spec Tryz.prog gl 7 none [(false, [.i v.x]), (false, [.i v.y]), (false, [.i v.z])] (.c true v.cs) none := by
  refine spec_plain A7_comp Tryz.func7 Tryz.call7 fol Tryz.ntmps7 Tryz.results7 (argsB_spec rfl) (Nat.le_of_ble_eq_true rfl) (idf_c rfl) ?_
  ((conv => whnf); (repeat (first | (refine ⟨rfl, ?_⟩; (conv => whnf)) | (refine ⟨Nat.le_of_ble_eq_true rfl, ?_⟩; (conv => whnf)))))
  exact retPure_ret rfl rfl
theorem lframe_spec {gl : Nat → Option (List AV)} (f : Fr) : Spec Tryz.prog gl 16 none [(true, f.t.m.cs), (false, [.i f.t.d]), (true, f.s.cs)] (.c true f.cs) none := by
  refine spec_plain A16_comp Tryz.func16 Tryz.call16 fol Tryz.ntmps16 Tryz.results16 (argsB_spec rfl) (Nat.le_of_ble_eq_true rfl) (idf_c rfl) ?_
  ((conv => whnf); (repeat (first | (refine ⟨rfl, ?_⟩; (conv => whnf)) | (refine ⟨Nat.le_of_ble_eq_true rfl, ?_⟩; (conv => whnf)))))
  exact retPure_ret rfl rfl
theorem goes_spec {f : Fr} {v w : V3} (h : apply f v = (w, true)) : Spec Tryz.prog glT 19 none [(true, f.cs), (true, v.cs), (true, w.cs)] (.c false [.b true]) none := by
  have hs := apply_spec f v
  rw [h] at hs
  refine spec_plain A19_comp Tryz.func19 Tryz.call19 fol Tryz.ntmps19 Tryz.results19 (argsB_spec rfl) (Nat.le_of_ble_eq_true rfl) (idf_c rfl) ?_
  ((conv => whnf); (repeat (refine ⟨Nat.le_of_ble_eq_true rfl, ?_⟩; (conv => whnf))))
  refine call_pure hs rfl rfl rfl ?_
  ((conv => whnf); (repeat (first | (refine ⟨rfl, ?_⟩; (conv => whnf)) | (refine ⟨Nat.le_of_ble_eq_true rfl, ?_⟩; (conv => whnf)) | (refine ⟨fun _ => ?_, fun h => Bool.noConfusion h⟩; (conv => whnf)))))
  refine retPure_ret rfl ?_
  exact eqb ((eqvw w w).2 rfl)
theorem eqpw (a : Pl) : eqVs [.int .i64 a.n.x, .int .i64 a.n.y, .int .i64 a.n.z, .int .i64 a.b] [.int .i64 a.n.x, .int .i64 a.n.y, .int .i64 a.n.z, .int .i64 a.b] = true := by
  simp [eqVs]
theorem turns_spec {f : Fr} {v w : Pl} (h : planeT f v = (w, true)) : Spec Tryz.prog glT 20 none [(true, f.cs), (true, v.cs), (true, w.cs)] (.c false [.b true]) none := by
  have hs := planeT_spec f v
  rw [h] at hs
  refine spec_plain A20_comp Tryz.func20 Tryz.call20 fol Tryz.ntmps20 Tryz.results20 (argsB_spec rfl) (Nat.le_of_ble_eq_true rfl) (idf_c rfl) ?_
  ((conv => whnf); (repeat (refine ⟨Nat.le_of_ble_eq_true rfl, ?_⟩; (conv => whnf))))
  refine call_pure hs rfl rfl rfl ?_
  ((conv => whnf); (repeat (first | (refine ⟨rfl, ?_⟩; (conv => whnf)) | (refine ⟨Nat.le_of_ble_eq_true rfl, ?_⟩; (conv => whnf)) | (refine ⟨fun _ => ?_, fun h => Bool.noConfusion h⟩; (conv => whnf)))))
  refine retPure_ret rfl ?_
  exact eqb (eqpw w)
def zF : Fr := ⟨⟨⟨0, -1, 0, 1, 0, 0, 0, 0, 1⟩, 1⟩, ⟨1, 2, 3⟩⟩
def qF : Fr := ⟨⟨⟨3, -4, 0, 4, 3, 0, 0, 0, 5⟩, 5⟩, ⟨0, 0, 0⟩⟩
theorem vT {t : Tn} {b : Bool} (h : t.ok = b) : Spec Tryz.prog glT 17 none [(true, t.cs)] (.c false [.b b]) none := h ▸ validT_spec t
theorem apT {f : Fr} {v w : V3} {b : Bool} (h : apply f v = (w, b)) : Spec Tryz.prog glT 8 none [(true, f.cs), (true, v.cs)] (.tup [(true, w.cs), (false, [.b b])]) none := by
  have hs := apply_spec f v
  rw [h] at hs
  exact hs
theorem plT {f : Fr} {v w : Pl} {b : Bool} (h : planeT f v = (w, b)) : Spec Tryz.prog glT 12 none [(true, f.cs), (true, v.cs)] (.tup [(true, w.cs), (false, [.b b])]) none := by
  have hs := planeT_spec f v
  rw [h] at hs
  exact hs
theorem bkT {f w : Fr} {b : Bool} (h : back f = (w, b)) : Spec Tryz.prog glT 21 none [(true, f.cs)] (.tup [(true, w.cs), (false, [.b b])]) none := by
  have hs := back_spec f
  rw [h] at hs
  exact hs
theorem afT {f g w : Fr} {b : Bool} (h : after f g = (w, b)) : Spec Tryz.prog glT 22 none [(true, f.cs), (true, g.cs)] (.tup [(true, w.cs), (false, [.b b])]) none := by
  have hs := after_spec f g
  rw [h] at hs
  exact hs
set_option maxHeartbeats 8000000
theorem sanity_spec : Spec Tryz.prog glT 4 none [] (.c false [.b true]) none := by
  refine spec_plain A4_comp Tryz.func4 Tryz.call4 fol Tryz.ntmps4 Tryz.results4 (argsB_spec rfl) (Nat.le_of_ble_eq_true rfl) (idf_c rfl) ?_
  ((conv => whnf); (repeat (first | (refine ⟨rfl, ?_⟩; (conv => whnf)) | (refine ⟨Nat.le_of_ble_eq_true rfl, ?_⟩; (conv => whnf)))))
  refine call_pure (lvec_spec ⟨1, 2, 3⟩) rfl rfl rfl ?_
  (conv => whnf)
  refine call_pure (lframe_spec zF) rfl rfl rfl ?_
  ((conv => whnf); (repeat (first | (refine ⟨(by kernel_rfl : chk _ _ = true), ?_⟩; (conv => whnf)) | (refine ⟨rfl, ?_⟩; (conv => whnf)) | (refine ⟨Nat.le_of_ble_eq_true rfl, ?_⟩; (conv => whnf)))))
  refine call_pure (lframe_spec qF) rfl rfl rfl ?_
  ((conv => whnf); (repeat (first | (refine ⟨rfl, ?_⟩; (conv => whnf)) | (refine ⟨Nat.le_of_ble_eq_true rfl, ?_⟩; (conv => whnf)))))
  refine call_pure (vT (t := qF.t) (b := true) (by decide +kernel)) rfl rfl rfl ?_
  ((conv => whnf); (repeat (first | (refine ⟨Nat.le_of_ble_eq_true rfl, ?_⟩; (conv => whnf)) | (refine ⟨fun _ => ?_, fun h => Bool.noConfusion h⟩; (conv => whnf)))))
  refine call_pure (vT (t := ⟨zF.t.m, 2⟩) (b := false) (by decide +kernel)) rfl rfl rfl ?_
  ((conv => whnf); (repeat (refine ⟨fun _ => ?_, fun h => Bool.noConfusion h⟩; (conv => whnf))))
  refine call_pure (vT (t := ⟨⟨0, -2, 0, 2, 0, 0, 0, 0, 2⟩, 2⟩) (b := false) (by decide +kernel)) rfl rfl rfl ?_
  ((conv => whnf); (repeat (refine ⟨fun _ => ?_, fun h => Bool.noConfusion h⟩; (conv => whnf))))
  refine call_pure (vT (t := ⟨⟨0, 0, 0, 0, 0, 0, 0, 0, 0⟩, 0⟩) (b := false) (by decide +kernel)) rfl rfl rfl ?_
  ((conv => whnf); (repeat (refine ⟨fun _ => ?_, fun h => Bool.noConfusion h⟩; (conv => whnf))))
  refine call_fresh all_spec rfl rfl rfl (fun x hx => by simp [SV.cells] at hx; subst hx; exact .inr ⟨10, _, rfl, rfl⟩) ?_
  ((conv => whnf); (repeat (refine ⟨Nat.le_of_ble_eq_true rfl, ?_⟩; (conv => whnf))))
  refine call_pure (lframe_spec ⟨zF.t, ⟨0, 0, 0⟩⟩) rfl rfl rfl ?_
  (conv => whnf)
  refine call_pure (lvec_spec ⟨25, 0, 0⟩) rfl rfl rfl ?_
  (conv => whnf)
  refine call_pure (apT (f := ⟨zF.t, ⟨0, 0, 0⟩⟩) (v := ⟨25, 0, 0⟩) (w := ⟨0, 0, 0⟩) (b := false) (by decide +kernel)) rfl rfl rfl ?_
  ((conv => whnf); (repeat (first | (refine ⟨rfl, ?_⟩; (conv => whnf)) | (refine ⟨Nat.le_of_ble_eq_true rfl, ?_⟩; (conv => whnf)))))
  refine call_pure (lvec_spec ⟨5, 9, 2⟩) rfl rfl rfl ?_
  (conv => whnf)
  refine call_pure (apT (f := qF) (v := ⟨5, 9, 2⟩) (w := ⟨0, 0, 0⟩) (b := false) (by decide +kernel)) rfl rfl rfl ?_
  ((conv => whnf); (repeat (first | (refine ⟨(by kernel_rfl : chk _ _ = true), ?_⟩; (conv => whnf)) | (refine ⟨rfl, ?_⟩; (conv => whnf)) | (refine ⟨Nat.le_of_ble_eq_true rfl, ?_⟩; (conv => whnf)) | (refine ⟨⟨of_decide_eq_true rfl, of_decide_eq_true rfl⟩, ?_⟩; (conv => whnf)) | (refine ⟨fun _ => ?_, fun h => Bool.noConfusion h⟩; (conv => whnf)))))
  refine call_pure (lvec_spec ⟨4, 5, 6⟩) rfl rfl rfl ?_
  ((conv => whnf); (repeat (refine ⟨fun _ => ?_, fun h => Bool.noConfusion h⟩; (conv => whnf))))
  refine call_pure (lvec_spec ⟨-4, 6, 9⟩) rfl rfl rfl ?_
  ((conv => whnf); (repeat (refine ⟨fun _ => ?_, fun h => Bool.noConfusion h⟩; (conv => whnf))))
  refine call_pure (goes_spec (f := zF) (v := ⟨4, 5, 6⟩) (w := ⟨-4, 6, 9⟩) (by decide +kernel)) rfl rfl rfl ?_
  ((conv => whnf); (repeat (first | (refine ⟨Nat.le_of_ble_eq_true rfl, ?_⟩; (conv => whnf)) | (refine ⟨fun _ => ?_, fun h => Bool.noConfusion h⟩; (conv => whnf)))))
  refine call_pure (lvec_spec ⟨5, 10, 2⟩) rfl rfl rfl ?_
  ((conv => whnf); (repeat (refine ⟨fun _ => ?_, fun h => Bool.noConfusion h⟩; (conv => whnf))))
  refine call_pure (lvec_spec ⟨-5, 10, 2⟩) rfl rfl rfl ?_
  ((conv => whnf); (repeat (refine ⟨fun _ => ?_, fun h => Bool.noConfusion h⟩; (conv => whnf))))
  refine call_pure (goes_spec (f := qF) (v := ⟨5, 10, 2⟩) (w := ⟨-5, 10, 2⟩) (by decide +kernel)) rfl rfl rfl ?_
  ((conv => whnf); (repeat (first | (refine ⟨(by kernel_rfl : chk _ _ = true), ?_⟩; (conv => whnf)) | (refine ⟨Nat.le_of_ble_eq_true rfl, ?_⟩; (conv => whnf)) | (refine ⟨fun _ => ?_, fun h => Bool.noConfusion h⟩; (conv => whnf)))))
  refine call_pure (lvec_spec ⟨3, -4, 0⟩) rfl rfl rfl ?_
  (conv => whnf)
  refine call_pure (plT (f := qF) (v := ⟨⟨3, -4, 0⟩, 1⟩) (w := ⟨⟨0, 0, 0⟩, 0⟩) (b := false) (by decide +kernel)) rfl rfl rfl ?_
  ((conv => whnf); (repeat (first | (refine ⟨(by kernel_rfl : chk _ _ = true), ?_⟩; (conv => whnf)) | (refine ⟨rfl, ?_⟩; (conv => whnf)) | (refine ⟨Nat.le_of_ble_eq_true rfl, ?_⟩; (conv => whnf)))))
  refine call_pure (lvec_spec ⟨1, 0, 0⟩) rfl rfl rfl ?_
  (conv => whnf)
  refine call_pure (lvec_spec ⟨0, 1, 0⟩) rfl rfl rfl ?_
  (conv => whnf)
  refine call_pure (turns_spec (f := zF) (v := ⟨⟨1, 0, 0⟩, 4⟩) (w := ⟨⟨0, 1, 0⟩, 6⟩) (by decide +kernel)) rfl rfl rfl ?_
  ((conv => whnf); (repeat (first | (refine ⟨Nat.le_of_ble_eq_true rfl, ?_⟩; (conv => whnf)) | (refine ⟨fun _ => ?_, fun h => Bool.noConfusion h⟩; (conv => whnf)))))
  refine call_pure (lvec_spec ⟨1, 0, 0⟩) rfl rfl rfl ?_
  ((conv => whnf); (repeat (refine ⟨fun _ => ?_, fun h => Bool.noConfusion h⟩; (conv => whnf))))
  refine call_pure (lvec_spec ⟨3, 4, 0⟩) rfl rfl rfl ?_
  ((conv => whnf); (repeat (refine ⟨fun _ => ?_, fun h => Bool.noConfusion h⟩; (conv => whnf))))
  refine call_pure (turns_spec (f := qF) (v := ⟨⟨1, 0, 0⟩, 4⟩) (w := ⟨⟨3, 4, 0⟩, 20⟩) (by decide +kernel)) rfl rfl rfl ?_
  ((conv => whnf); (repeat (first | (refine ⟨Nat.le_of_ble_eq_true rfl, ?_⟩; (conv => whnf)) | (refine ⟨fun _ => ?_, fun h => Bool.noConfusion h⟩; (conv => whnf)))))
  refine call_pure (lvec_spec ⟨1, 2, 0⟩) rfl rfl rfl ?_
  ((conv => whnf); (repeat (refine ⟨fun _ => ?_, fun h => Bool.noConfusion h⟩; (conv => whnf))))
  refine call_pure (lvec_spec ⟨-1, 2, 0⟩) rfl rfl rfl ?_
  ((conv => whnf); (repeat (refine ⟨fun _ => ?_, fun h => Bool.noConfusion h⟩; (conv => whnf))))
  refine call_pure (turns_spec (f := qF) (v := ⟨⟨1, 2, 0⟩, 1⟩) (w := ⟨⟨-1, 2, 0⟩, 1⟩) (by decide +kernel)) rfl rfl rfl ?_
  ((conv => whnf); (repeat (first | (refine ⟨Nat.le_of_ble_eq_true rfl, ?_⟩; (conv => whnf)) | (refine ⟨fun _ => ?_, fun h => Bool.noConfusion h⟩; (conv => whnf)))))
  refine call_pure (lvec_spec ⟨2, 0, 1⟩) rfl rfl rfl ?_
  ((conv => whnf); (repeat (refine ⟨fun _ => ?_, fun h => Bool.noConfusion h⟩; (conv => whnf))))
  refine call_pure (lvec_spec ⟨6, 8, 5⟩) rfl rfl rfl ?_
  ((conv => whnf); (repeat (refine ⟨fun _ => ?_, fun h => Bool.noConfusion h⟩; (conv => whnf))))
  refine call_pure (turns_spec (f := qF) (v := ⟨⟨2, 0, 1⟩, 3⟩) (w := ⟨⟨6, 8, 5⟩, 15⟩) (by decide +kernel)) rfl rfl rfl ?_
  ((conv => whnf); (repeat (first | (refine ⟨Nat.le_of_ble_eq_true rfl, ?_⟩; (conv => whnf)) | (refine ⟨fun _ => ?_, fun h => Bool.noConfusion h⟩; (conv => whnf)))))
  refine call_pure (lvec_spec ⟨3, -4, 0⟩) rfl rfl rfl ?_
  ((conv => whnf); (repeat (refine ⟨fun _ => ?_, fun h => Bool.noConfusion h⟩; (conv => whnf))))
  refine call_pure (lvec_spec ⟨1, 0, 0⟩) rfl rfl rfl ?_
  ((conv => whnf); (repeat (refine ⟨fun _ => ?_, fun h => Bool.noConfusion h⟩; (conv => whnf))))
  refine call_pure (turns_spec (f := qF) (v := ⟨⟨3, -4, 0⟩, 5⟩) (w := ⟨⟨1, 0, 0⟩, 1⟩) (by decide +kernel)) rfl rfl rfl ?_
  ((conv => whnf); (repeat (first | (refine ⟨(by kernel_rfl : chk _ _ = true), ?_⟩; (conv => whnf)) | (refine ⟨Nat.le_of_ble_eq_true rfl, ?_⟩; (conv => whnf)) | (refine ⟨fun _ => ?_, fun h => Bool.noConfusion h⟩; (conv => whnf)))))
  refine call_pure (bkT (f := zF) (w := ⟨⟨⟨0, 1, 0, -1, 0, 0, 0, 0, 1⟩, 1⟩, ⟨-2, 1, -3⟩⟩) (b := true) (by decide +kernel)) rfl rfl rfl ?_
  ((conv => whnf); (repeat (first | (refine ⟨rfl, ?_⟩; (conv => whnf)) | (refine ⟨Nat.le_of_ble_eq_true rfl, ?_⟩; (conv => whnf)))))
  refine call_pure (afT (f := qF) (g := qF) (w := ⟨⟨⟨-7, -24, 0, 24, -7, 0, 0, 0, 25⟩, 25⟩, ⟨0, 0, 0⟩⟩) (b := true) (by decide +kernel)) rfl rfl rfl ?_
  ((conv => whnf); (repeat (first | (refine ⟨rfl, ?_⟩; (conv => whnf)) | (refine ⟨Nat.le_of_ble_eq_true rfl, ?_⟩; (conv => whnf)) | (refine ⟨fun _ => ?_, fun h => Bool.noConfusion h⟩; (conv => whnf)))))
  refine call_pure (lvec_spec ⟨-2, 1, -3⟩) rfl rfl rfl ?_
  ((conv => whnf); (repeat (refine ⟨fun _ => ?_, fun h => Bool.noConfusion h⟩; (conv => whnf))))
  refine call_pure (lframe_spec ⟨⟨⟨0, 1, 0, -1, 0, 0, 0, 0, 1⟩, 1⟩, ⟨-2, 1, -3⟩⟩) rfl rfl rfl ?_
  ((conv => whnf); (repeat (first | (refine ⟨rfl, ?_⟩; (conv => whnf)) | (refine ⟨Nat.le_of_ble_eq_true rfl, ?_⟩; (conv => whnf)) | (refine ⟨fun _ => ?_, fun h => Bool.noConfusion h⟩; (conv => whnf)))))
  refine call_pure (lframe_spec ⟨⟨⟨-7, -24, 0, 24, -7, 0, 0, 0, 25⟩, 25⟩, ⟨0, 0, 0⟩⟩) rfl rfl rfl ?_
  ((conv => whnf); (repeat (first | (refine ⟨(by kernel_rfl : chk _ _ = true), ?_⟩; (conv => whnf)) | (refine ⟨rfl, ?_⟩; (conv => whnf)) | (refine ⟨fun _ => ?_, fun h => Bool.noConfusion h⟩; (conv => whnf)))))
  exact retPure_ret rfl rfl
end Go.Proofs.YtlbafapmhjfobaaGreatDoor
