/-
  Contracts: what Faces and Extreme of the package hull compute, for lists of at most a million points.
-/
import Derived.Test.YtlbafapmhjfobaaGreatDoorHull1
import Derived.Test.YtlbafapmhjfobaaGreatDoorSort
import Derived.Test.YtlbafapmhjfobaaGreatDoorPlane
set_option linter.unusedVariables false
set_option linter.unusedSimpArgs false
namespace Go.Proofs.YtlbafapmhjfobaaGreatDoor
set_option maxRecDepth 100000
attribute [local irreducible] LoopW LoopY RngW retPure retFresh retBox retTurn
variable {gl : Nat → Option (List AV)}

def distL (xs : List V3) : List V3 := cpV (sortBy cmpV xs) (sortBy cmpV xs).length
theorem sortV_len (xs : List V3) : (sortBy cmpV xs).length = xs.length := (sortBy_perm cmpV_swo xs).1.length_eq
theorem sortP_len (xs : List Pl) : (sortBy cmpP xs).length = xs.length := (sortBy_perm cmpP_swo xs).1.length_eq
theorem distinct_fresh {xs : List V3} (hx : xs.length ≤ 1000000) (hne : xs ≠ []) : Spec Tryz.prog gl 35 none [(false, [.li 3 (vcs xs)])] (.c false [.own 0 (distL xs).length]) (some (.row 3 (vcs (distL xs)))) := by
  refine spec_fresh' A35_comp Tryz.func35 Tryz.call35 fol Tryz.ntmps35 Tryz.results35 (argsB_spec rfl) (Nat.le_of_ble_eq_true rfl) (by intro x hx; simp [HE.cells] at hx) ?_ ?_
  · intro x hx; simp [SV.cells] at hx; subst hx; exact .inr rfl
  (conv => whnf)
  refine call_fresh (clone_spec hx hne) rfl rfl rfl (fun x hx => by simp [SV.cells] at hx; subst hx; exact .inr ⟨3, vcs xs, rfl, by simp⟩) ?_
  (conv => whnf)
  refine call_row 3 (sortV_spec hx) (by simp [sortV_len]) rfl rfl (fun p hp x hx => ?_) ⟨_, List.mem_cons_self, by simp⟩ rfl ?_
  · simp only [List.mem_cons, List.not_mem_nil, or_false] at hp
    rcases hp with rfl | rfl
    · simp only [List.mem_singleton] at hx
      subst hx; exact .inr (by simp)
    · simp only [List.mem_singleton] at hx
      subst hx; exact .inl rfl
  (conv => whnf)
  refine call_turn 3 (compactV_spec (xs := sortBy cmpV xs) (by rw [sortV_len]; exact hx)) rfl (by rw [sortV_len]; rfl) (fun p hp x hx => ?_) ⟨_, List.mem_cons_self, by simp⟩ (fun x hx => by simp [SV.cells] at hx; subst hx; exact .inr (by simp)) ?_
  · simp only [List.mem_cons, List.not_mem_nil, or_false] at hp
    subst hp
    simp only [List.mem_singleton] at hx
    subst hx; exact .inr (by simp)
  (conv => whnf)
  exact retFresh_ret 8 rfl rfl ⟨rfl, .inl (by simp [ren, distL]), trivial⟩
theorem distinct_spec {xs : List V3} (hx : xs.length ≤ 1000000) (hne : xs ≠ []) : Spec Tryz.prog gl 35 none [(false, [.li 3 (vcs xs)])] (.c false [.li 3 (vcs (distL xs))]) none := by
  refine spec_plain A35_comp Tryz.func35 Tryz.call35 fol Tryz.ntmps35 Tryz.results35 (argsB_spec rfl) (Nat.le_of_ble_eq_true rfl) (idf_c rfl) ?_
  (conv => whnf)
  refine call_fresh (clone_spec hx hne) rfl rfl rfl (fun x hx => by simp [SV.cells] at hx; subst hx; exact .inr ⟨3, vcs xs, rfl, by simp⟩) ?_
  (conv => whnf)
  refine call_row 3 (sortV_spec hx) (by simp [sortV_len]) rfl rfl (fun p hp x hx => ?_) ⟨_, List.mem_cons_self, by simp⟩ rfl ?_
  · simp only [List.mem_cons, List.not_mem_nil, or_false] at hp
    rcases hp with rfl | rfl
    · simp only [List.mem_singleton] at hx
      subst hx; exact .inr (by simp)
    · simp only [List.mem_singleton] at hx
      subst hx; exact .inl rfl
  (conv => whnf)
  refine call_turn 3 (compactV_spec (xs := sortBy cmpV xs) (by rw [sortV_len]; exact hx)) rfl (by rw [sortV_len]; rfl) (fun p hp x hx => ?_) ⟨_, List.mem_cons_self, by simp⟩ (fun x hx => by simp [SV.cells] at hx; subst hx; exact .inr (by simp)) ?_
  · simp only [List.mem_cons, List.not_mem_nil, or_false] at hp
    subst hp
    simp only [List.mem_singleton] at hx
    subst hx; exact .inr (by simp)
  (conv => whnf)
  refine retPure_fr rfl ?_
  exact ⟨rfl, .inr (.inr (.inl ⟨_, _, 3, vcs (distL xs), rfl, rfl, trivial, rfl, rfl⟩)), trivial⟩
theorem Weak.nilbox (b k : Nat) {st : St} (h : st.hp b = some (.box [.nil])) (hb : b ≠ st.nx) : Weak gl st ⟨st.sl, upd (upd st.hp b (some (.box [.own st.nx 0]))) st.nx (some (.row k [])), st.nx + 1⟩ := by
  refine Weak.nilrow k (Nat.le_refl _) (fun i => coeNS.refl _) (upd_same _ _ _) (fun c hc => ?_)
  simp only [upd_ne _ _ hc]
  by_cases hcb : c = b
  · subst hcb; rw [h, upd_same]; exact ⟨.inr ⟨rfl, rfl⟩, trivial⟩
  · rw [upd_ne _ _ hcb]; exact coeNH.refl _
theorem hasKey_encP (l : List Pl) (p : Pl) : hasKey (l.map encP) (encP p) = decide (p ∈ l) := by
  rw [Bool.eq_iff_iff]
  simp only [hasKey, List.any_map, List.any_eq_true, Function.comp_def, decide_eq_true_eq]
  have key : ∀ q : Pl, eqVs (encP p) (encP q) = true ↔ p = q := by
    rintro ⟨⟨qx, qy, qz⟩, qb⟩
    obtain ⟨⟨px, py, pz⟩, pb⟩ := p
    simp [eqVs, encP, and_assoc]
  constructor
  · rintro ⟨q, hq, he⟩
    rw [(key q).1 he]; exact hq
  · intro h; exact ⟨p, h, (key p).2 rfl⟩
/-- the facets of the hull of some points: what has been seen, what has been found -/
def stepF (xs : List V3) (s : List Pl × List Pl) (p : Pl) : List Pl × List Pl := if p ∈ s.1 then s else (s.1 ++ [p], if beyond xs p then s.2 else s.2 ++ [p])
def scanF (xs : List V3) (l : List Pl) : List Pl × List Pl := l.foldl (stepF xs) ([], [])
theorem scanF_len (xs : List V3) (l : List Pl) : (scanF xs l).1.length ≤ l.length ∧ (scanF xs l).2.length ≤ l.length := by
  have : ∀ (l : List Pl) (s : List Pl × List Pl), (l.foldl (stepF xs) s).1.length ≤ s.1.length + l.length ∧ (l.foldl (stepF xs) s).2.length ≤ s.2.length + l.length := by
    intro l
    induction l with
    | nil => intro s; simp
    | cons p l ih =>
      intro s
      have h := ih (stepF xs s p)
      have h1 : (stepF xs s p).1.length ≤ s.1.length + 1 ∧ (stepF xs s p).2.length ≤ s.2.length + 1 := by
        unfold stepF
        split
        · omega
        · simp only [List.length_append, List.length_singleton]
          split <;> simp
      simp only [List.foldl_cons, List.length_cons]
      omega
  simpa [scanF] using this l ([], [])
def facesL (xs : List V3) : List Pl := sortBy cmpP (scanF (distL xs) (trip (distL xs))).2
theorem faces_err {xs : List V3} (hx : xs.length ≤ 1000000) (he : chkV xs ≠ 0) : Spec Tryz.prog gl 11 none [(false, [.li 3 (vcs xs)])] (.tup [(false, [.li 4 []]), (false, [.i (chkV xs)])]) none := by
  refine spec_plain A11_comp Tryz.func11 Tryz.call11 fol Tryz.ntmps11 Tryz.results11 (argsB_spec rfl) (Nat.le_of_ble_eq_true rfl) (idf_c rfl) ?_
  ((conv => whnf); (repeat (refine ⟨Nat.le_of_ble_eq_true rfl, ?_⟩; (conv => whnf))))
  refine call_pure (check_spec hx) rfl rfl rfl ?_
  ((conv => whnf); (repeat (refine ⟨rfl, ?_⟩; (conv => whnf))))
  have : (chkV xs != 0) = true := by simpa using he
  rw [this]
  ((conv => whnf); (repeat (refine ⟨fun _ => ?_, fun h => Bool.noConfusion h⟩; (conv => whnf))))
  refine retPure_fr rfl ?_
  exact ⟨⟨rfl, .inr (.inr (.inr (.inl ⟨4, rfl, rfl⟩))), trivial⟩, ⟨rfl, .inl rfl, trivial⟩, trivial⟩
theorem faces_ok {xs : List V3} (hx : xs.length ≤ 1000000) (he : chkV xs = 0) (hne : xs ≠ []) (hlen : (trip (distL xs)).length ≤ 1000000) : Spec Tryz.prog gl 11 none [(false, [.li 3 (vcs xs)])] (.tup [(false, [.li 4 (pcs (facesL xs))]), (false, [.i 0])]) none := by
  refine spec_plain A11_comp Tryz.func11 Tryz.call11 fol Tryz.ntmps11 Tryz.results11 (argsB_spec rfl) (Nat.le_of_ble_eq_true rfl) (idf_c rfl) ?_
  ((conv => whnf); (repeat (refine ⟨Nat.le_of_ble_eq_true rfl, ?_⟩; (conv => whnf))))
  refine call_pure (check_spec hx) rfl rfl rfl ?_
  ((conv => whnf); (repeat (refine ⟨rfl, ?_⟩; (conv => whnf))))
  rw [he]
  ((conv => whnf); (repeat (first | (refine ⟨Nat.le_of_ble_eq_true rfl, ?_⟩; (conv => whnf)) | (refine ⟨fun h => Bool.noConfusion h, fun _ => ?_⟩; (conv => whnf)))))
  refine call_pure (distinct_spec hx hne) rfl rfl rfl ?_
  ((conv => whnf); (repeat (first | (refine ⟨rfl, ?_⟩; (conv => whnf)) | (refine ⟨Nat.le_of_ble_eq_true rfl, ?_⟩; (conv => whnf)))))
  refine call_pure triples_spec rfl rfl rfl ?_
  (conv => whnf)
  have hd : (distL xs).length ≤ 1000000 := by
    have := cpV_len (sortBy cmpV xs) (sortBy cmpV xs).length
    rw [sortV_len] at this
    unfold distL
    rw [sortV_len]; omega
  refine rng_rule 77 [.ref [.li 3 (vcs (distL xs))]] (pits (trip (distL xs))) (fun _ => True)
    (fun k => mk [(1, .c false [.ptr 1 0]), (5, .c false [.ptr 13 0]), (6, .c false [.ptr 15 0]), (17, .c false [.fn 77 [] [.ref [.li 3 (vcs (distL xs))]]])]
      [(1, .box [.li 3 (vcs (distL xs))]), (12, .keys [some .i64, some .i64, some .i64, some .i64] ((scanF (distL xs) ((trip (distL xs)).take k)).1.map encP)), (13, .box [.mp 12]), (15, .box [.own 18 (scanF (distL xs) ((trip (distL xs)).take k)).2.length]), (18, .row 4 (pcs (scanF (distL xs) ((trip (distL xs)).take k)).2))] 100)
    (triples_iter hd) rfl rfl trivial (.trans (Weak.nilbox 15 4 rfl (Nat.ne_of_beq_eq_false rfl)) (.to ⟨rfl, rfl, rfl, rfl, trivial⟩ ⟨rfl, rfl, rfl, rfl, rfl, trivial⟩ rfl rfl)) ?_ ?_
  · rintro k it hk -
    have hk' : k < (trip (distL xs)).length := by
      have := (List.getElem?_eq_some_iff.1 hk).1
      simpa using this
    obtain ⟨p, hp, rfl⟩ : ∃ p, (trip (distL xs))[k]? = some p ∧ (true, p.cs) = it := by simpa using hk
    have htake : (trip (distL xs)).take (k + 1) = (trip (distL xs)).take k ++ [p] := by rw [List.take_add_one, hp]; rfl
    have hscan : scanF (distL xs) ((trip (distL xs)).take (k + 1)) = stepF (distL xs) (scanF (distL xs) ((trip (distL xs)).take k)) p := by
      rw [htake]; simp [scanF]
    have hlk := scanF_len (distL xs) ((trip (distL xs)).take k)
    have hlk2 : ((trip (distL xs)).take k).length ≤ k := by simp; omega
    obtain ⟨s, hs⟩ : ∃ s, scanF (distL xs) ((trip (distL xs)).take k) = s := ⟨_, rfl⟩
    rw [hs] at hscan hlk ⊢
    ((conv => whnf); (repeat (first | (refine ⟨rfl, ?_⟩; (conv => whnf)) | (refine ⟨Nat.le_of_ble_eq_true rfl, ?_⟩; (conv => whnf)))))
    have hkey := hasKey_encP s.1 p
    simp only [encP] at hkey
    rw [hkey]
    cases hm : decide (p ∈ s.1)
    · have hm' := of_decide_eq_false hm
      rw [stepF, if_neg hm'] at hscan
      ((conv => whnf); (repeat (first | (refine ⟨rfl, ?_⟩; (conv => whnf)) | (refine ⟨Nat.le_of_ble_eq_true rfl, ?_⟩; (conv => whnf)) | (refine ⟨fun h => Bool.noConfusion h, fun _ => ?_⟩; (conv => whnf)))))
      refine ⟨by rw [hkey]; exact hm, ?_⟩
      ((conv => whnf); (repeat (refine ⟨Nat.le_of_ble_eq_true rfl, ?_⟩; (conv => whnf))))
      refine call_pure (beyond_spec hd p) rfl rfl rfl ?_
      (conv => whnf)
      cases hb : beyond (distL xs) p
      · rw [hb] at hscan
        ((conv => whnf); (repeat (first | (refine ⟨rfl, ?_⟩; (conv => whnf)) | (refine ⟨Nat.le_of_ble_eq_true rfl, ?_⟩; (conv => whnf)) | (refine ⟨⟨of_decide_eq_true rfl, of_decide_eq_true rfl⟩, ?_⟩; (conv => whnf)) | (refine ⟨fun _ => ?_, fun h => Bool.noConfusion h⟩; (conv => whnf)))))
        refine ⟨by simp, by simp [big]; omega, fun m h => absurd (own_inj h) (Nat.ne_of_beq_eq_false rfl), ?_⟩
        ((conv => whnf); (repeat (first | (refine ⟨rfl, ?_⟩; (conv => whnf)) | (refine ⟨Nat.le_of_ble_eq_true rfl, ?_⟩; (conv => whnf)) | (refine ⟨of_decide_eq_true rfl, ?_⟩; (conv => whnf)))))
        refine Weak.to ⟨rfl, rfl, rfl, rfl, trivial⟩ ⟨rfl, ?_, rfl, ?_, ?_, trivial⟩ rfl rfl
        · rw [hscan]; simp [encP]; rfl
        · rw [hscan]; simp; rfl
        · rw [hscan]; simp; rfl
      · rw [hb] at hscan
        ((conv => whnf); (repeat (first | (refine ⟨of_decide_eq_true rfl, ?_⟩; (conv => whnf)) | (refine ⟨fun h => Bool.noConfusion h, fun _ => ?_⟩; (conv => whnf)))))
        refine Weak.to ⟨rfl, rfl, rfl, rfl, trivial⟩ ⟨rfl, ?_, rfl, ?_, ?_, trivial⟩ rfl rfl
        · rw [hscan]; simp [encP]; rfl
        · rw [hscan]; simp; rfl
        · rw [hscan]; simp; rfl
    · have hm' := of_decide_eq_true hm
      rw [stepF, if_pos hm'] at hscan
      ((conv => whnf); (repeat (first | (refine ⟨of_decide_eq_true rfl, ?_⟩; (conv => whnf)) | (refine ⟨fun _ => ?_, fun h => Bool.noConfusion h⟩; (conv => whnf)))))
      refine Weak.to ⟨rfl, rfl, rfl, rfl, trivial⟩ ⟨rfl, ?_, rfl, ?_, ?_, trivial⟩ rfl rfl
      · rw [hscan]; rfl
      · rw [hscan]; rfl
      · rw [hscan]; rfl
  · intro _
    have htl : (trip (distL xs)).take (pits (trip (distL xs))).length = trip (distL xs) := by simp
    rw [htl]
    have hlk := scanF_len (distL xs) (trip (distL xs))
    ((conv => whnf); (repeat (refine ⟨Nat.le_of_ble_eq_true rfl, ?_⟩; (conv => whnf))))
    refine call_row 18 (sortP_spec (xs := (scanF (distL xs) (trip (distL xs))).2) (by omega)) (by simp [sortP_len]) rfl rfl (fun p hp x hx => ?_) ⟨_, List.mem_cons_self, by simp⟩ rfl ?_
    · simp only [List.mem_cons, List.not_mem_nil, or_false] at hp
      rcases hp with rfl | rfl
      · simp only [List.mem_singleton] at hx
        subst hx; exact .inr (by simp)
      · simp only [List.mem_singleton] at hx
        subst hx; exact .inl rfl
    ((conv => whnf); (repeat (refine ⟨Nat.le_of_ble_eq_true rfl, ?_⟩; (conv => whnf))))
    refine retPure_fr rfl ?_
    exact ⟨⟨rfl, .inr (.inr (.inl ⟨18, _, 4, _, rfl, rfl, trivial, rfl, by simp [facesL, sortP_len]⟩)), trivial⟩, ⟨rfl, .inl rfl, trivial⟩, trivial⟩
end Go.Proofs.YtlbafapmhjfobaaGreatDoor
namespace Go.Proofs.YtlbafapmhjfobaaGreatDoor
set_option maxRecDepth 100000
attribute [local irreducible] LoopW LoopY RngW retPure retFresh retBox retTurn
variable {gl : Nat → Option (List AV)}

def extL (xs : List V3) : List V3 := (distL xs).filter fun v => !inner (facesL xs) v
theorem extreme_err {xs : List V3} (hx : xs.length ≤ 1000000) (he : chkV xs ≠ 0) : Spec Tryz.prog gl 13 none [(false, [.li 3 (vcs xs)])] (.tup [(false, [.li 3 []]), (false, [.i (chkV xs)])]) none := by
  refine spec_plain A13_comp Tryz.func13 Tryz.call13 fol Tryz.ntmps13 Tryz.results13 (argsB_spec rfl) (Nat.le_of_ble_eq_true rfl) (idf_c rfl) ?_
  (conv => whnf)
  refine call_pure (faces_err hx he) rfl rfl rfl ?_
  ((conv => whnf); (repeat (first | (refine ⟨rfl, ?_⟩; (conv => whnf)) | (refine ⟨Nat.le_of_ble_eq_true rfl, ?_⟩; (conv => whnf)))))
  have : (chkV xs != 0) = true := by simpa using he
  rw [this]
  ((conv => whnf); (repeat (refine ⟨fun _ => ?_, fun h => Bool.noConfusion h⟩; (conv => whnf))))
  refine retPure_fr rfl ?_
  exact ⟨⟨rfl, .inr (.inr (.inr (.inl ⟨3, rfl, rfl⟩))), trivial⟩, ⟨rfl, .inl rfl, trivial⟩, trivial⟩
theorem extreme_ok {xs : List V3} (hx : xs.length ≤ 1000000) (he : chkV xs = 0) (hne : xs ≠ []) (hlen : (trip (distL xs)).length ≤ 1000000) (hfb : ∀ p ∈ facesL xs, p.n.bd 4608) : Spec Tryz.prog gl 13 none [(false, [.li 3 (vcs xs)])] (.tup [(false, [.li 3 (vcs (extL xs))]), (false, [.i 0])]) none := by
  refine spec_plain A13_comp Tryz.func13 Tryz.call13 fol Tryz.ntmps13 Tryz.results13 (argsB_spec rfl) (Nat.le_of_ble_eq_true rfl) (idf_c rfl) ?_
  (conv => whnf)
  refine call_pure (faces_ok hx he hne hlen) rfl rfl rfl ?_
  ((conv => whnf); (repeat (first | (refine ⟨rfl, ?_⟩; (conv => whnf)) | (refine ⟨Nat.le_of_ble_eq_true rfl, ?_⟩; (conv => whnf)) | (refine ⟨fun h => Bool.noConfusion h, fun _ => ?_⟩; (conv => whnf)))))
  refine ⟨mk [(0, .c false [.li 3 (vcs xs)]), (4, .c false [.ref [.li 4 (pcs (facesL xs))]])] [] 100, .toF (fun b => b = 8) ⟨coeFS.refl _, coeF.ref0 rfl rfl rfl, trivial⟩ trivial rfl rfl, ?_⟩
  (conv => whnf)
  refine call_fresh (distinct_fresh hx hne) rfl rfl rfl (fun x hx => by simp [SV.cells] at hx; subst hx; exact .inr ⟨3, vcs (distL xs), rfl, by simp⟩) ?_
  (conv => whnf)
  have hd : (distL xs).length ≤ 1000000 := by
    have := cpV_len (sortBy cmpV xs) (sortBy cmpV xs).length
    rw [sortV_len] at this
    unfold distL
    rw [sortV_len]; omega
  have hfl : (facesL xs).length ≤ 1000000 := by
    unfold facesL
    rw [sortP_len]
    have := scanF_len (distL xs) (trip (distL xs))
    omega
  refine call_turn 103 (deleteV_spec hd (p := inner (facesL xs)) (f := 42) (caps := [.ref [.li 4 (pcs (facesL xs))]]) ⟨rfl, fun v _ => inner_spec hfl hfb v⟩) rfl rfl (fun p hp x hx => ?_) ⟨_, List.mem_cons_self, by simp⟩ (fun x hx => by simp [SV.cells] at hx; subst hx; exact .inr (by simp)) ?_
  · simp only [List.mem_cons, List.not_mem_nil, or_false] at hp
    rcases hp with rfl | rfl
    · simp only [List.mem_singleton] at hx
      subst hx; exact .inr (by simp)
    · simp only [List.mem_singleton] at hx
      subst hx; exact .inl rfl
  (conv => whnf)
  refine retPure_fr rfl ?_
  exact ⟨⟨rfl, .inr (.inr (.inl ⟨_, _, 3, vcs (extL xs), rfl, rfl, trivial, rfl, rfl⟩)), trivial⟩, ⟨rfl, .inl rfl, trivial⟩, trivial⟩
end Go.Proofs.YtlbafapmhjfobaaGreatDoor
