/-
  The walk through TurnHulls: it returns true for all lists of numbers.
-/
import Derived.Test.YtlbafapmhjfobaaGreatDoorLaw
set_option linter.unusedVariables false
set_option linter.unusedSimpArgs false
namespace Go.Proofs.YtlbafapmhjfobaaGreatDoor
set_option maxRecDepth 100000
attribute [local irreducible] LoopW LoopY RngW retPure retFresh retBox retTurn
variable {gl : Nat → Option (List AV)}
def facesR (xs : List V3) : List Pl := if chkV xs = 0 then facesL xs else []
def extR (xs : List V3) : List V3 := if chkV xs = 0 then extL xs else []
theorem coeF.own {hp : Nat → Option HE} {D : Nat → Prop} {b n k : Nat} {xs : List (List AV)} (hD : D b) (hb : hp b = some (.row k xs)) (hn : n = xs.length) : coeFS hp D (.c false [.own b n]) (.c false [.li k xs]) :=
  ⟨rfl, .inr (.inr (.inl ⟨b, n, k, xs, rfl, rfl, hD, hb, hn⟩)), trivial⟩
theorem facesR_spec {xs : List V3} (hx : xs.length ≤ 48) (hne : xs ≠ []) : Spec Tryz.prog gl 11 none [(false, [.li 3 (vcs xs)])] (.tup [(false, [.li 4 (pcs (facesR xs))]), (false, [.i (chkV xs)])]) none := by
  have hd := distL_len xs
  unfold facesR
  split
  · rename_i h
    rw [h]
    exact faces_ok (by omega) h hne (trip_len (by omega))
  · rename_i h
    exact faces_err (by omega) h
theorem extR_spec {xs : List V3} (hx : xs.length ≤ 48) (hne : xs ≠ []) : Spec Tryz.prog gl 13 none [(false, [.li 3 (vcs xs)])] (.tup [(false, [.li 3 (vcs (extR xs))]), (false, [.i (chkV xs)])]) none := by
  have hd := distL_len xs
  unfold extR
  split
  · rename_i h
    rw [h]
    exact extreme_ok (by omega) h hne (trip_len (by omega)) (facesL_bd xs)
  · rename_i h
    exact extreme_err (by omega) h
theorem eqPP (a b : Pl) : eqVs [.int .i64 a.n.x, .int .i64 a.n.y, .int .i64 a.n.z, .int .i64 a.b] [.int .i64 b.n.x, .int .i64 b.n.y, .int .i64 b.n.z, .int .i64 b.b] = decide (a = b) := by
  obtain ⟨⟨ax, ay, az⟩, ab⟩ := a
  obtain ⟨⟨bx, bY, bz⟩, bb⟩ := b
  rw [Bool.eq_iff_iff]
  simp [eqVs, and_assoc]
theorem facesL_len {xs : List V3} (h : xs.length ≤ 48) : (facesL xs).length ≤ 1000000 := by
  have hd := distL_len xs
  have h1 := trip_len (xs := distL xs) (by omega)
  have h2 := (scanF_len (distL xs) (trip (distL xs))).2
  rw [facesL, sortP_len]
  omega
theorem law_facts {f : Fr} {us P M : List V3} (h : Pts f us) (hP : P = ptP f us) (hM : M = ptM f us) (h8 : P.length ≤ 8) (hneP : P ≠ []) (hneM : M ≠ []) (h8' : M.length ≤ 8) :
    ∃ (FP FM : List Pl) (a b : List V3) (e : Int),
      Spec Tryz.prog gl 11 none [(false, [.li 3 (vcs P)])] (.tup [(false, [.li 4 (pcs FP)]), (false, [.i e])]) none ∧
      Spec Tryz.prog gl 11 none [(false, [.li 3 (vcs M)])] (.tup [(false, [.li 4 (pcs FM)]), (false, [.i e])]) none ∧
      Spec Tryz.prog gl 13 none [(false, [.li 3 (vcs P)])] (.tup [(false, [.li 3 (vcs a)]), (false, [.i e])]) none ∧
      Spec Tryz.prog gl 13 none [(false, [.li 3 (vcs M)])] (.tup [(false, [.li 3 (vcs b)]), (false, [.i e])]) none ∧
      FP.length = FM.length ∧ FP.length ≤ 1000000 ∧ (∀ x ∈ FP, planeT f x = (plT1 f x, true) ∧ plT1 f x ∈ FM) ∧ a.length = b.length ∧ a.length ≤ 8 ∧ putAll (a.map (mvp f)) = b := by
  have hchk : chkV M = chkV P := by rw [hP, hM]; exact h.chk
  refine ⟨facesR P, facesR M, extR P, extR M, chkV P, facesR_spec (by omega) hneP, hchk ▸ facesR_spec (by omega) hneM, extR_spec (by omega) hneP, hchk ▸ extR_spec (by omega) hneM, ?_⟩
  unfold facesR extR
  rw [hchk]
  split
  · subst hP hM
    refine ⟨h.faces_len, facesL_len (by omega), fun x hx => ⟨(h.fac ((mem_facesL _ _).1 hx).1).1, (h.faces _).2 ⟨x, hx, rfl⟩⟩, h.ext_len, ?_, h.put⟩
    have h1 := List.length_filter_le (fun v => !inner (facesL (ptP f us)) v) (distL (ptP f us))
    have h2 := distL_len (ptP f us)
    rw [extL]
    omega
  · exact ⟨rfl, by simp, fun x hx => by simp at hx, rfl, by simp, rfl⟩
theorem law_spec (l p : List Int) : Spec Tryz.prog glT 3 none [(false, [.li 1 (ics l)]), (false, [.li 1 (ics p)])] (.c false [.b true]) none := by
  refine spec_plain A3_comp Tryz.func3 Tryz.call3 fol Tryz.ntmps3 Tryz.results3 (argsB_spec rfl) (Nat.le_of_ble_eq_true rfl) (idf_c rfl) ?_
  have hpts := pts_law l p
  have hP := lawP_eq l p
  have hM := lawM_eq l p
  unfold lawM at hM
  unfold lawP at hP hM
  obtain ⟨hd25, _⟩ : (frameV l).t.d ≤ 25 ∧ True := ⟨(frameV_facts l).2.2.2, trivial⟩
  have hfs := frames_spec (gl := glT) (l := l)
  have hqs := points_spec (gl := glT) (l := p)
  have hqb := points_bd p
  have hql := points_len p
  have hn := ptN_bd p
  obtain ⟨us, hus⟩ : ∃ us, us = usV l p := ⟨_, rfl⟩
  rw [← hus] at hpts hP hM
  obtain ⟨f, hf⟩ : ∃ f, f = frameV l := ⟨_, rfl⟩
  rw [← hf] at hpts hP hM hd25 hfs
  obtain ⟨Q, hQ⟩ : ∃ Q, Q = points p := ⟨_, rfl⟩
  rw [← hQ] at hP hM hqs hqb hql
  have hQl : 4 ≤ Q.length ∧ Q.length ≤ 8 := by omega
  have hd1 := hpts.rt.d1
  clear hus hf hQ hql hn
  obtain ⟨P, hPe⟩ : ∃ P, P = Q.map (snap f.t.d) := ⟨_, rfl⟩
  rw [← hPe] at hP hM
  obtain ⟨M, hMe⟩ : ∃ M, M = P.map (mvp f) := ⟨_, rfl⟩
  rw [← hMe] at hM
  have hPl : P.length = Q.length := by rw [hPe, List.length_map]
  have hMl : M.length = Q.length := by rw [hMe, List.length_map, hPl]
  (conv => whnf)
  refine call_pure sanity_spec rfl rfl rfl ?_
  (conv => whnf)
  refine call_pure hfs rfl rfl rfl ?_
  ((conv => whnf); (repeat (first | (refine ⟨rfl, ?_⟩; (conv => whnf)) | (refine ⟨Nat.le_of_ble_eq_true rfl, ?_⟩; (conv => whnf)))))
  refine call_fresh hqs rfl rfl rfl (fun x hx => by simp [SV.cells] at hx; subst hx; exact .inr ⟨3, _, rfl, by simp⟩) ?_
  (conv => whnf)
  refine ⟨by simp, ?_⟩
  (conv => whnf)
  refine W_loop (fun k : Nat => k ≤ Q.length)
    (fun k => mk [(4, .c false [.b false]), (5, .c false [.b true]), (6, .c false [.ptr 6 0]), (7, .c false [.i f.t.d]), (8, .c false [.own 13 Q.length]), (9, .c false [.own 19 k]), (45, .c false [.own 13 Q.length]), (46, .c false [.i Q.length]), (47, .c false [.i k])]
      [(6, .box f.cs), (13, .row 3 (vcs (P.take k ++ Q.drop k))), (19, .row 3 (vcs (M.take k)))] 100)
    (fun k => Q.length - k) 0 (by simp) (.trans (Weak.nilslot 9 3 rfl) (.to ⟨rfl, rfl, rfl, rfl, rfl, rfl, rfl, rfl, rfl, trivial⟩ ⟨rfl, rfl, rfl, trivial⟩ rfl rfl)) ?_
  intro k hk
  have hR : (P.take k ++ Q.drop k).length = Q.length := by
    rw [List.length_append, List.length_take, List.length_drop]; omega
  obtain ⟨R, hRe⟩ : ∃ R, R = P.take k ++ Q.drop k := ⟨_, rfl⟩
  rw [← hRe] at hR
  rw [← hRe]
  have hRv : (vcs R).length = Q.length := by rw [List.length_map, hR]
  ((conv => whnf); (repeat (refine ⟨rfl, ?_⟩; (conv => whnf))))
  refine ⟨fun hlt => ?_, fun hge => ?_⟩
  · have hlt' : k < Q.length := by simpa using hlt
    ((conv => whnf); (repeat (refine ⟨rfl, ?_⟩; (conv => whnf))))
    have hv : R[k]'(by omega) = Q[k] := by
      subst hRe
      rw [List.getElem_append_right (by rw [List.length_take]; omega)]
      simp only [List.length_take, List.getElem_drop]
      congr 1
      omega
    have e : (vcs R).getD (k : Int).toNat [] = (Q[k]).cs := by
      have hk2 : k < R.length := by omega
      simp [hk2, hv]
    refine ⟨hRv.symm, ⟨by omega, by rw [hRv]; omega⟩, ?_⟩
    ((conv => whnf); (repeat (refine ⟨rfl, ?_⟩; (conv => whnf))))
    refine ⟨by rw [hRv]; omega, Nat.le_of_ble_eq_true rfl, ?_⟩
    rw [e]
    obtain ⟨v, hve⟩ : ∃ v, v = Q[k] := ⟨_, rfl⟩
    have hvb : v.bd 11 := by rw [hve]; exact hqb _ (List.getElem_mem _)
    rw [← hve]
    have hd0 : f.t.d ≠ 0 := by omega
    have t1 := tdiv_bd (b := f.t.d) hvb.1
    have t2 := tdiv_bd (b := f.t.d) hvb.2.1
    have t3 := tdiv_bd (b := f.t.d) hvb.2.2
    have s1 := tdiv_mul_bd (d := f.t.d) hvb.1
    have s2 := tdiv_mul_bd (d := f.t.d) hvb.2.1
    have s3 := tdiv_mul_bd (d := f.t.d) hvb.2.2
    have w1 : IntKind.i64.wrap (IntKind.i64.wrap (v.x.tdiv f.t.d) * f.t.d) = f.t.d * v.x.tdiv f.t.d := by
      rw [wr (n := v.x.tdiv f.t.d) (by omega), Int.mul_comm]; exact wr (by omega)
    have w2 : IntKind.i64.wrap (IntKind.i64.wrap (v.y.tdiv f.t.d) * f.t.d) = f.t.d * v.y.tdiv f.t.d := by
      rw [wr (n := v.y.tdiv f.t.d) (by omega), Int.mul_comm]; exact wr (by omega)
    have w3 : IntKind.i64.wrap (IntKind.i64.wrap (v.z.tdiv f.t.d) * f.t.d) = f.t.d * v.z.tdiv f.t.d := by
      rw [wr (n := v.z.tdiv f.t.d) (by omega), Int.mul_comm]; exact wr (by omega)
    ((conv => whnf); (repeat (first | (refine ⟨rfl, ?_⟩; (conv => whnf)) | (refine ⟨Nat.le_of_ble_eq_true rfl, ?_⟩; (conv => whnf)))))
    refine ⟨hd0, ?_⟩
    ((conv => whnf); (repeat (first | (refine ⟨rfl, ?_⟩; (conv => whnf)) | (refine ⟨Nat.le_of_ble_eq_true rfl, ?_⟩; (conv => whnf)))))
    refine ⟨hd0, ?_⟩
    ((conv => whnf); (repeat (first | (refine ⟨rfl, ?_⟩; (conv => whnf)) | (refine ⟨Nat.le_of_ble_eq_true rfl, ?_⟩; (conv => whnf)))))
    refine ⟨hd0, ?_⟩
    ((conv => whnf); (repeat (refine ⟨rfl, ?_⟩; (conv => whnf))))
    refine call_pure (lvec_spec (snap f.t.d v)) (by rw [w1, w2, w3]; rfl) rfl rfl ?_
    ((conv => whnf); (repeat (refine ⟨rfl, ?_⟩; (conv => whnf))))
    refine ⟨hRv.symm, ⟨by omega, by rw [hRv]; omega⟩, ?_⟩
    ((conv => whnf); (repeat (refine ⟨rfl, ?_⟩; (conv => whnf))))
    refine ⟨by rw [hRv]; omega, rfl, Nat.le_of_ble_eq_true rfl, rfl, ?_⟩
    have hset : (vcs R).set (k : Int).toNat (putAt ((vcs R).getD (k : Int).toNat []) 0 (snap f.t.d v).cs) = vcs (P.take (k + 1) ++ Q.drop (k + 1)) := by
      refine (vcs_set (xs := R) (i := k) (v := snap f.t.d v) (by omega)).trans ?_
      congr 1
      subst hRe
      have hPk : P[k]'(by omega) = snap f.t.d v := by
        subst hPe
        rw [List.getElem_map, hve]
      rw [List.drop_eq_getElem_cons hlt', List.take_add_one, List.getElem?_eq_getElem (by omega), hPk]
      rw [List.set_append_right _ _ (by rw [List.length_take]; omega)]
      have e0 : k - (P.take k).length = 0 := by rw [List.length_take]; omega
      rw [e0, List.set_cons_zero, List.append_assoc]
      rfl
    have hset' := hset
    simp only [V3.cs] at hset'
    rw [hset']
    have hPk : P[k]'(by omega) = snap f.t.d v := by
      subst hPe
      rw [List.getElem_map, hve]
    have hR2 : (P.take (k + 1) ++ Q.drop (k + 1)).length = Q.length := by
      rw [List.length_append, List.length_take, List.length_drop]; omega
    have hR2k : (P.take (k + 1) ++ Q.drop (k + 1))[k]'(by omega) = snap f.t.d v := by
      rw [List.getElem_append_left (by rw [List.length_take]; omega), List.getElem_take, hPk]
    clear hset hset'
    obtain ⟨R2, hR2e⟩ : ∃ R2, R2 = P.take (k + 1) ++ Q.drop (k + 1) := ⟨_, rfl⟩
    simp only [← hR2e] at hR2 hR2k
    rw [← hR2e]
    have hR2v : (vcs R2).length = Q.length := by rw [List.length_map, hR2]
    have e2 : (vcs R2).getD (k : Int).toNat [] = (snap f.t.d v).cs := by
      have hk2 : k < R2.length := by omega
      simp [hk2, hR2k]
    ((conv => whnf); (repeat (first | (refine ⟨(by kernel_rfl : chk _ _ = true), ?_⟩; (conv => whnf)) | (refine ⟨rfl, ?_⟩; (conv => whnf)) | (refine ⟨Nat.le_of_ble_eq_true rfl, ?_⟩; (conv => whnf)))))
    refine ⟨hR2v.symm, ⟨by omega, by rw [hR2v]; omega⟩, ?_⟩
    ((conv => whnf); (repeat (refine ⟨rfl, ?_⟩; (conv => whnf))))
    refine ⟨by rw [hR2v]; omega, Nat.le_of_ble_eq_true rfl, ?_⟩
    rw [e2]
    (conv => whnf)
    have hap : apply f (snap f.t.d v) = (mvp f (snap f.t.d v), true) := by
      have hin : snap f.t.d v ∈ P := by rw [← hPk]; exact List.getElem_mem _
      rw [hP] at hin
      obtain ⟨u, hu, hue⟩ := List.mem_map.1 hin
      rw [← hue, mvp, hpts.ap hu]
    refine call_pure (apT hap) rfl rfl rfl ?_
    ((conv => whnf); (repeat (first | (refine ⟨(by kernel_rfl : chk _ _ = true), ?_⟩; (conv => whnf)) | (refine ⟨rfl, ?_⟩; (conv => whnf)) | (refine ⟨Nat.le_of_ble_eq_true rfl, ?_⟩; (conv => whnf)) | (refine ⟨⟨of_decide_eq_true rfl, of_decide_eq_true rfl⟩, ?_⟩; (conv => whnf)) | (refine ⟨fun h => Bool.noConfusion h, fun _ => ?_⟩; (conv => whnf)))))
    have hMk : M[k]'(by omega) = mvp f (snap f.t.d v) := by
      subst hMe
      rw [List.getElem_map, hPk]
    have hMs : M.take (k + 1) = M.take k ++ [mvp f (snap f.t.d v)] := by
      rw [List.take_add_one, List.getElem?_eq_getElem (by omega), hMk]; rfl
    refine ⟨by simp; omega, by simp [big]; omega, fun m h => absurd (own_inj h) (Nat.ne_of_beq_eq_false rfl), ?_⟩
    ((conv => whnf); (repeat (refine ⟨rfl, ?_⟩; (conv => whnf))))
    refine ⟨k + 1, hlt', by omega, .to ⟨rfl, rfl, rfl, rfl, rfl, congrArg (fun n => SV.c false [AV.own 19 n]) ?_, rfl, rfl, eq1 (by rw [wr (by omega)]; omega), trivial⟩ ⟨rfl, ?_, congrArg (fun r => some (HE.row 3 r)) ?_, trivial⟩ rfl rfl⟩
    · simp; omega
    · rw [← hR2e]; rfl
    · rw [hMs]; simp [V3.cs]
  · have hk' : k = Q.length := by have : ¬ k < Q.length := by simpa using hge
                                  omega
    have hRP : R = P := by
      rw [hRe, hk', ← hPl, List.take_length, hPl, List.drop_length, List.append_nil]
    have hMM : M.take k = M := by rw [hk', ← hMl, List.take_length]
    rw [hRP, hMM]
    clear hRe hR hRv hRP hMM hge
    subst hk'
    (conv => whnf)
    refine ⟨by simp [hPl], ?_⟩
    (conv => whnf)
    refine W_loop (fun k : Nat => k ≤ P.length)
      (fun k => mk [(4, .c false [.b false]), (5, .c false [.b true]), (6, .c false [.ptr 6 0]), (8, .c false [.li 3 (vcs P)]), (9, .c false [.li 3 (vcs M)]), (91, .c false [.i P.length]), (92, .c false [.i k])] [(6, .box f.cs)] 200)
      (fun k => P.length - k) 0 (by simp) (.toF (fun b => b = 13 ∨ b = 19) ⟨coeFS.refl _, coeFS.refl _, coeFS.refl _, coeF.own (.inl rfl) rfl (by simp [hPl]), coeF.own (.inr rfl) rfl (by simp [hMl]), ?_, coeFS.refl _, trivial⟩ ⟨⟨by omega, _, rfl, coeF.refl _⟩, trivial⟩ rfl rfl) ?_
    · rw [hPl]; exact coeFS.refl _
    intro k hk
    ((conv => whnf); (repeat (refine ⟨rfl, ?_⟩; (conv => whnf))))
    refine ⟨fun hlt => ?_, fun hge => ?_⟩
    · have hlt' : k < P.length := by simpa using hlt
      have hlM : k < M.length := by omega
      have e1 : (vcs P).getD (k : Int).toNat [] = (P[k]).cs := by simp [hlt']
      have e2 : (vcs P).getD (0 : Int).toNat [] = (P[0]'(by omega)).cs := by simp [show 0 < P.length by omega]
      have e3 : (vcs M).getD (k : Int).toNat [] = (M[k]).cs := by simp [hlM]
      have e4 : (vcs M).getD (0 : Int).toNat [] = (M[0]'(by omega)).cs := by simp [show 0 < M.length by omega]
      have hPb : ∀ v ∈ P, v.bd 24 := by
        intro v hv
        rw [hP] at hv
        obtain ⟨u, hu, rfl⟩ := List.mem_map.1 hv
        exact inB_bd (hpts.pin hu)
      have hMb : ∀ v ∈ M, v.bd 24 := by
        intro v hv
        rw [hM] at hv
        obtain ⟨u, hu, rfl⟩ := List.mem_map.1 hv
        exact inB_bd (hpts.min hu)
      have hdots : ((P[k]).sub (P[0]'(by omega))).dot ((P[k]).sub (P[0]'(by omega))) = ((M[k]).sub (M[0]'(by omega))).dot ((M[k]).sub (M[0]'(by omega))) := by
        subst hP hM
        simp only [ptP, ptM, List.getElem_map]
        exact hpts.dots _ _
      have b1 := hPb P[k] (List.getElem_mem _)
      have b2 := hPb (P[0]'(by omega)) (List.getElem_mem _)
      have b3 := hMb M[k] (List.getElem_mem _)
      have b4 := hMb (M[0]'(by omega)) (List.getElem_mem _)
      have b5 := sub_bd b1 b2
      have b6 := sub_bd b3 b4
      generalize P[k] = vp at *
      generalize P[0]'(by omega) = wp at *
      generalize M[k] = vm at *
      generalize M[0]'(by omega) = wm at *
      have hPv : (vcs P).length = P.length := List.length_map _
      have hMv : (vcs M).length = P.length := by rw [List.length_map]; omega
      ((conv => whnf); (repeat (refine ⟨rfl, ?_⟩; (conv => whnf))))
      refine ⟨⟨by omega, by rw [hPv]; omega⟩, ?_⟩
      (conv => whnf)
      rw [e1]
      ((conv => whnf); (repeat (first | (refine ⟨rfl, ?_⟩; (conv => whnf)) | (refine ⟨Nat.le_of_ble_eq_true rfl, ?_⟩; (conv => whnf)))))
      refine ⟨⟨by omega, by rw [hPv]; omega⟩, ?_⟩
      (conv => whnf)
      rw [e2]
      ((conv => whnf); (repeat (refine ⟨Nat.le_of_ble_eq_true rfl, ?_⟩; (conv => whnf))))
      refine call_pure (sub_spec (a := vp) (b := wp) (b1.mono (by omega)) (b2.mono (by omega))) rfl rfl rfl ?_
      ((conv => whnf); (repeat (refine ⟨rfl, ?_⟩; (conv => whnf))))
      refine ⟨⟨by omega, by rw [hMv]; omega⟩, ?_⟩
      (conv => whnf)
      rw [e3]
      ((conv => whnf); (repeat (first | (refine ⟨rfl, ?_⟩; (conv => whnf)) | (refine ⟨Nat.le_of_ble_eq_true rfl, ?_⟩; (conv => whnf)))))
      refine ⟨⟨by omega, by rw [hMv]; omega⟩, ?_⟩
      (conv => whnf)
      rw [e4]
      ((conv => whnf); (repeat (refine ⟨Nat.le_of_ble_eq_true rfl, ?_⟩; (conv => whnf))))
      refine call_pure (sub_spec (a := vm) (b := wm) (b3.mono (by omega)) (b4.mono (by omega))) rfl rfl rfl ?_
      ((conv => whnf); (repeat (first | (refine ⟨(by kernel_rfl : chk _ _ = true), ?_⟩; (conv => whnf)) | (refine ⟨rfl, ?_⟩; (conv => whnf)) | (refine ⟨Nat.le_of_ble_eq_true rfl, ?_⟩; (conv => whnf)))))
      refine call_pure (dot_spec (a := vp.sub wp) (b := vp.sub wp) (b5.mono (by omega)) (b5.mono (by omega))) rfl rfl rfl ?_
      ((conv => whnf); (repeat (refine ⟨Nat.le_of_ble_eq_true rfl, ?_⟩; (conv => whnf))))
      refine call_pure (dot_spec (a := vm.sub wm) (b := vm.sub wm) (b6.mono (by omega)) (b6.mono (by omega))) rfl rfl rfl ?_
      ((conv => whnf); (repeat (first | (refine ⟨(by kernel_rfl : chk _ _ = true), ?_⟩; (conv => whnf)) | (refine ⟨rfl, ?_⟩; (conv => whnf)))))
      rw [hdots, bne_self_eq_false]
      ((conv => whnf); (repeat (first | (refine ⟨rfl, ?_⟩; (conv => whnf)) | (refine ⟨fun h => Bool.noConfusion h, fun _ => ?_⟩; (conv => whnf)))))
      exact ⟨k + 1, hlt', by omega, .to ⟨rfl, rfl, rfl, rfl, rfl, rfl, eq1 (by rw [wr (by omega)]; omega), trivial⟩ ⟨rfl, trivial⟩ rfl rfl⟩
    · have hneP : P ≠ [] := by intro h; rw [h] at hPl; simp at hPl; omega
      have hneM : M ≠ [] := by intro h; rw [h] at hMl; simp at hMl; omega
      (conv => whnf)
      obtain ⟨FP, FM, a, b, e, s1, s2, s3, s4, hFl, hFb, hF, hal, hab, hput⟩ := law_facts hpts hP hM (by omega) hneP hneM (by omega)
      refine call_pure s1 rfl rfl rfl ?_
      (conv => whnf)
      refine call_pure s2 rfl rfl rfl ?_
      ((conv => whnf); (repeat (refine ⟨rfl, ?_⟩; (conv => whnf))))
      rw [bne_self_eq_false]
      ((conv => whnf); (repeat (first | (refine ⟨rfl, ?_⟩; (conv => whnf)) | (refine ⟨fun _ => ?_, fun h => Bool.noConfusion h⟩; (conv => whnf)) | (refine ⟨fun h => Bool.noConfusion h, fun _ => ?_⟩; (conv => whnf)))))
      have hFv : ((pcs FP).length : Int) = (pcs FM).length := by simp [hFl]
      rw [hFv, bne_self_eq_false]
      ((conv => whnf); (repeat (refine ⟨fun h => Bool.noConfusion h, fun _ => ?_⟩; (conv => whnf))))
      refine W_loop (fun k : Nat => k ≤ FP.length)
        (fun k => mk [(4, .c false [.b false]), (5, .c false [.b true]), (6, .c false [.ptr 6 0]), (8, .c false [.li 3 (vcs P)]), (9, .c false [.li 3 (vcs M)]), (18, .c false [.i e]), (19, .c false [.li 4 (pcs FM)]), (139, .c false [.li 4 (pcs FP)]), (140, .c false [.i (pcs FP).length]), (141, .c false [.i k])] [(6, .box f.cs)] 200)
        (fun k => FP.length - k) 0 (by simp) (.to ⟨rfl, rfl, rfl, rfl, rfl, rfl, rfl, rfl, rfl, rfl, trivial⟩ ⟨rfl, trivial⟩ rfl rfl) ?_
      intro k hk
      ((conv => whnf); (repeat (refine ⟨rfl, ?_⟩; (conv => whnf))))
      refine ⟨fun hlt => ?_, fun hge => ?_⟩
      · have hlt' : k < FP.length := by simpa using hlt
        have e1 : (pcs FP).getD (k : Int).toNat [] = (FP[k]).cs := by simp [hlt']
        obtain ⟨hx1, hx2⟩ := hF FP[k] (List.getElem_mem _)
        ((conv => whnf); (repeat (refine ⟨rfl, ?_⟩; (conv => whnf))))
        refine ⟨⟨by omega, by simpa using hlt'⟩, ?_⟩
        (conv => whnf)
        rw [e1]
        ((conv => whnf); (repeat (first | (refine ⟨rfl, ?_⟩; (conv => whnf)) | (refine ⟨Nat.le_of_ble_eq_true rfl, ?_⟩; (conv => whnf)))))
        refine call_pure (plT hx1) rfl rfl rfl ?_
        obtain ⟨y, hy⟩ : ∃ y, y = plT1 f FP[k] := ⟨_, rfl⟩
        rw [← hy] at hx2
        rw [← hy]
        ((conv => whnf); (repeat (first | (refine ⟨rfl, ?_⟩; (conv => whnf)) | (refine ⟨Nat.le_of_ble_eq_true rfl, ?_⟩; (conv => whnf)))))
        refine W_loop (fun j : Nat => j ≤ FM.length)
          (fun j => mk [(4, .c false [.b false]), (5, .c false [.b true]), (6, .c false [.ptr 6 0]), (8, .c false [.li 3 (vcs P)]), (9, .c false [.li 3 (vcs M)]), (18, .c false [.i e]), (19, .c false [.li 4 (pcs FM)]), (139, .c false [.li 4 (pcs FP)]), (140, .c false [.i (pcs FP).length]), (141, .c false [.i k]), (23, .c false [.ptr 211 0]), (24, .c false [.b true]), (25, .c false [.b ((FM.take j).any fun z => decide (y = z))]), (151, .c false [.li 4 (pcs FM)]), (152, .c false [.i (pcs FM).length]), (153, .c false [.i j])] [(6, .box f.cs), (211, .box y.cs)] 300)
          (fun j => FM.length - j) 0 (by simp) (.to ⟨rfl, rfl, rfl, rfl, rfl, rfl, rfl, rfl, rfl, rfl, rfl, rfl, rfl, rfl, rfl, rfl, trivial⟩ ⟨rfl, rfl, trivial⟩ rfl rfl) ?_
        intro j hj
        ((conv => whnf); (repeat (refine ⟨rfl, ?_⟩; (conv => whnf))))
        refine ⟨fun hltj => ?_, fun hgej => ?_⟩
        · have hltj' : j < FM.length := by simpa using hltj
          have e2 : (pcs FM).getD (j : Int).toNat [] = (FM[j]).cs := by simp [hltj']
          have hsn : (FM.take (j + 1)).any (fun z => decide (y = z)) = ((FM.take j).any (fun z => decide (y = z)) || decide (y = FM[j])) := by
            rw [List.take_add_one, List.getElem?_eq_getElem hltj', List.any_append]; simp
          ((conv => whnf); (repeat (refine ⟨rfl, ?_⟩; (conv => whnf))))
          refine ⟨⟨by omega, by simpa using hltj'⟩, ?_⟩
          (conv => whnf)
          rw [e2]
          ((conv => whnf); (repeat (first | (refine ⟨rfl, ?_⟩; (conv => whnf)) | (refine ⟨Nat.le_of_ble_eq_true rfl, ?_⟩; (conv => whnf)))))
          cases hb : (FM.take j).any (fun z => decide (y = z))
          · ((conv => whnf); (repeat (first | (refine ⟨rfl, ?_⟩; (conv => whnf)) | (refine ⟨Nat.le_of_ble_eq_true rfl, ?_⟩; (conv => whnf)) | (refine ⟨fun _ => ?_, fun h => Bool.noConfusion h⟩; (conv => whnf)) | (refine ⟨fun h => Bool.noConfusion h, fun _ => ?_⟩; (conv => whnf)))))
            refine ⟨j + 1, hltj', by omega, .to ⟨rfl, rfl, rfl, rfl, rfl, rfl, rfl, rfl, rfl, rfl, rfl, rfl, eqb ?_, rfl, rfl, eq1 (by rw [wr (by omega)]; omega), trivial⟩ ⟨rfl, rfl, trivial⟩ rfl rfl⟩
            rw [hsn, hb, Bool.false_or]
            exact eqPP y FM[j]
          · ((conv => whnf); (repeat (first | (refine ⟨rfl, ?_⟩; (conv => whnf)) | (refine ⟨fun _ => ?_, fun h => Bool.noConfusion h⟩; (conv => whnf)) | (refine ⟨fun h => Bool.noConfusion h, fun _ => ?_⟩; (conv => whnf)))))
            refine ⟨j + 1, hltj', by omega, .to ⟨rfl, rfl, rfl, rfl, rfl, rfl, rfl, rfl, rfl, rfl, rfl, rfl, eqb ?_, rfl, rfl, eq1 (by rw [wr (by omega)]; omega), trivial⟩ ⟨rfl, rfl, trivial⟩ rfl rfl⟩
            rw [hsn, hb, Bool.true_or]
        · have hj' : j = FM.length := by have : ¬ j < FM.length := by simpa using hgej
                                         omega
          have hany : (FM.take j).any (fun z => decide (y = z)) = true := by
            rw [hj', List.take_length, List.any_eq_true]
            exact ⟨y, hx2, by simp⟩
          rw [hany]
          ((conv => whnf); (repeat (first | (refine ⟨rfl, ?_⟩; (conv => whnf)) | (refine ⟨fun _ => ?_, fun h => Bool.noConfusion h⟩; (conv => whnf)) | (refine ⟨fun h => Bool.noConfusion h, fun _ => ?_⟩; (conv => whnf)))))
          exact ⟨k + 1, hlt', by omega, .to ⟨rfl, rfl, rfl, rfl, rfl, rfl, rfl, rfl, rfl, eq1 (by rw [wr (by omega)]; omega), trivial⟩ ⟨rfl, trivial⟩ rfl rfl⟩
      · (conv => whnf)
        refine call_pure s3 rfl rfl rfl ?_
        (conv => whnf)
        refine call_pure s4 rfl rfl rfl ?_
        ((conv => whnf); (repeat (refine ⟨rfl, ?_⟩; (conv => whnf))))
        rw [bne_self_eq_false]
        ((conv => whnf); (repeat (first | (refine ⟨rfl, ?_⟩; (conv => whnf)) | (refine ⟨fun _ => ?_, fun h => Bool.noConfusion h⟩; (conv => whnf)) | (refine ⟨fun h => Bool.noConfusion h, fun _ => ?_⟩; (conv => whnf)))))
        rw [bne_self_eq_false]
        ((conv => whnf); (repeat (first | (refine ⟨rfl, ?_⟩; (conv => whnf)) | (refine ⟨fun _ => ?_, fun h => Bool.noConfusion h⟩; (conv => whnf)) | (refine ⟨fun h => Bool.noConfusion h, fun _ => ?_⟩; (conv => whnf)))))
        have hav : ((vcs a).length : Int) = (vcs b).length := by simp [hal]
        rw [hav, bne_self_eq_false]
        ((conv => whnf); (repeat (refine ⟨fun h => Bool.noConfusion h, fun _ => ?_⟩; (conv => whnf))))
        refine W_loop (fun k : Nat => k ≤ a.length)
          (fun k => mk [(4, .c false [.b false]), (5, .c false [.b true]), (6, .c false [.ptr 6 0]), (30, .c false [.li 3 (vcs b)]), (32, .c false [.li 3 (vcs (putAll ((a.take k).map (mvp f))))]), (196, .c false [.li 3 (vcs a)]), (197, .c false [.i (vcs a).length]), (198, .c false [.i k])] [(6, .box f.cs)] 300)
          (fun k => a.length - k) 0 (by simp) (.toF (fun _ => False) ⟨coeFS.refl _, coeFS.refl _, coeFS.refl _, coeFS.refl _, ⟨rfl, .inr (.inr (.inr (.inl ⟨3, rfl, rfl⟩))), trivial⟩, coeFS.refl _, coeFS.refl _, coeFS.refl _, trivial⟩ ⟨⟨id, _, rfl, coeF.refl _⟩, trivial⟩ rfl rfl) ?_
        clear hge hk
        intro k hk
        ((conv => whnf); (repeat (refine ⟨rfl, ?_⟩; (conv => whnf))))
        refine ⟨fun hlt => ?_, fun hge => ?_⟩
        · have hlt' : k < a.length := by simpa using hlt
          have e1 : (vcs a).getD (k : Int).toNat [] = (a[k]).cs := by simp [hlt']
          ((conv => whnf); (repeat (refine ⟨rfl, ?_⟩; (conv => whnf))))
          refine ⟨⟨by omega, by simpa using hlt'⟩, ?_⟩
          (conv => whnf)
          rw [e1]
          ((conv => whnf); (repeat (first | (refine ⟨rfl, ?_⟩; (conv => whnf)) | (refine ⟨Nat.le_of_ble_eq_true rfl, ?_⟩; (conv => whnf)))))
          refine call_pure (apply_spec f a[k]) rfl rfl rfl ?_
          ((conv => whnf); (repeat (first | (refine ⟨rfl, ?_⟩; (conv => whnf)) | (refine ⟨Nat.le_of_ble_eq_true rfl, ?_⟩; (conv => whnf)))))
          have hpl := (putAll_props ((a.take k).map (mvp f))).2.2
          rw [List.length_map, List.length_take] at hpl
          refine call_pure (put_spec (xs := putAll ((a.take k).map (mvp f))) (v := mvp f a[k]) (by omega)) rfl rfl rfl ?_
          ((conv => whnf); (repeat (refine ⟨rfl, ?_⟩; (conv => whnf))))
          have hsn : putAll ((a.take (k + 1)).map (mvp f)) = putL (mvp f a[k]) (putAll ((a.take k).map (mvp f))) := by
            rw [List.take_add_one, List.getElem?_eq_getElem hlt', List.map_append]
            exact putAll_snoc _ _
          exact ⟨k + 1, hlt', by omega, .to ⟨rfl, rfl, rfl, rfl, congrArg (fun r => SV.c false [AV.li 3 (vcs r)]) hsn.symm, rfl, rfl, eq1 (by rw [wr (by omega)]; omega), trivial⟩ ⟨rfl, trivial⟩ rfl rfl⟩
        · have hk' : k = a.length := by have : ¬ k < a.length := by simpa using hge
                                        omega
          rw [hk', List.take_length, hput]
          ((conv => whnf); (repeat (refine ⟨fun _ => ?_, fun h => Bool.noConfusion h⟩; (conv => whnf))))
          refine call_pure (same_spec (xs := b) (ys := b) (by omega)) rfl rfl rfl ?_
          ((conv => whnf); (repeat (refine ⟨fun _ => ?_, fun h => Bool.noConfusion h⟩; (conv => whnf))))
          exact retPure_ret rfl rfl
end Go.Proofs.YtlbafapmhjfobaaGreatDoor
