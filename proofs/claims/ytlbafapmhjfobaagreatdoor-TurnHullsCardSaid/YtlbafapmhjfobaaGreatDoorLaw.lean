/-
  The plain law, no program in sight: the facets, the vertices and the inner products of points that are moved by a rotation and a shift.
-/
import Derived.Test.YtlbafapmhjfobaaGreatDoorRef2
import Derived.Test.YtlbafapmhjfobaaGreatDoorHull2
import Derived.Test.YtlbafapmhjfobaaGreatDoorRef4
import Derived.Test.YtlbafapmhjfobaaGreatDoorRef1
set_option linter.unusedVariables false
set_option linter.unusedSimpArgs false
namespace Go.Proofs.YtlbafapmhjfobaaGreatDoor
/-- strictly before -/
def vlt (a b : V3) : Prop := a.x < b.x ∨ (a.x = b.x ∧ (a.y < b.y ∨ (a.y = b.y ∧ a.z < b.z)))
theorem vlt_irrefl (a : V3) : ¬ vlt a a := by unfold vlt; omega
theorem vlt_trans {a b c : V3} (h1 : vlt a b) (h2 : vlt b c) : vlt a c := by unfold vlt at *; omega
theorem vlt_tri (a b : V3) : vlt a b ∨ a = b ∨ vlt b a := by
  obtain ⟨ax, ay, az⟩ := a
  obtain ⟨bx, bY, bz⟩ := b
  simp only [vlt, V3.mk.injEq]
  omega
theorem befB_vlt (a b : V3) : befB a b = true ↔ vlt a b := by
  unfold befB vlt
  split
  · split
    · simp only [decide_eq_true_eq]; omega
    · simp only [decide_eq_true_eq]; omega
  · simp only [decide_eq_true_eq]; omega
theorem ltOf_vlt (a b : V3) : ltOf cmpV a b = true ↔ vlt a b := by
  rw [cmpV_lt]; simp only [decide_eq_true_eq, vlt]
/-- two strictly ascending lists with the same elements -/
theorem asc_unique : ∀ {l r : List V3}, l.Pairwise vlt → r.Pairwise vlt → (∀ v, v ∈ l ↔ v ∈ r) → l = r := by
  intro l
  induction l with
  | nil =>
    intro r _ _ h
    cases r with
    | nil => rfl
    | cons b r => exact absurd ((h b).2 List.mem_cons_self) (by simp)
  | cons a l ih =>
    intro r hl hr h
    cases r with
    | nil => exact absurd ((h a).1 List.mem_cons_self) (by simp)
    | cons b r =>
      rw [List.pairwise_cons] at hl hr
      have hab : a = b := by
        rcases vlt_tri a b with hlt | he | hgt
        · have := (h a).1 List.mem_cons_self
          rcases List.mem_cons.1 this with e | e
          · exact e
          · exact absurd (vlt_trans (hr.1 a e) hlt) (vlt_irrefl b)
        · exact he
        · have := (h b).2 List.mem_cons_self
          rcases List.mem_cons.1 this with e | e
          · exact e.symm
          · exact absurd (vlt_trans (hl.1 b e) hgt) (vlt_irrefl a)
      subst hab
      congr 1
      refine ih hl.2 hr.2 fun v => ?_
      have h1 := h v
      simp only [List.mem_cons] at h1
      constructor
      · intro hv
        rcases h1.1 (.inr hv) with e | e
        · subst e; exact absurd (hl.1 v hv) (vlt_irrefl v)
        · exact e
      · intro hv
        rcases h1.2 (.inr hv) with e | e
        · subst e; exact absurd (hr.1 v hv) (vlt_irrefl v)
        · exact e
theorem mem_putL (v u : V3) : ∀ (xs : List V3), u ∈ putL v xs ↔ u = v ∨ u ∈ xs := by
  intro xs
  induction xs with
  | nil => simp [putL]
  | cons x xs ih =>
    simp only [putL]
    split
    · simp only [List.mem_cons, ih]
      constructor
      · rintro (h | h | h)
        · exact .inr (.inl h)
        · exact .inl h
        · exact .inr (.inr h)
      · rintro (h | h | h)
        · exact .inr (.inl h)
        · exact .inl h
        · exact .inr (.inr h)
    · split
      · rename_i h1 h2
        subst h2
        simp
      · simp
theorem putL_asc (v : V3) : ∀ {xs : List V3}, xs.Pairwise vlt → (putL v xs).Pairwise vlt := by
  intro xs
  induction xs with
  | nil => intro _; simp [putL]
  | cons x xs ih =>
    intro h
    rw [List.pairwise_cons] at h
    simp only [putL]
    split
    · rename_i hb
      rw [List.pairwise_cons]
      refine ⟨fun u hu => ?_, ih h.2⟩
      rcases (mem_putL v u xs).1 hu with e | e
      · subst e; exact (befB_vlt x u).1 hb
      · exact h.1 u e
    · rename_i hb
      split
      · exact List.pairwise_cons.2 h
      · rename_i hne
        have hvx : vlt v x := by
          rcases vlt_tri v x with e | e | e
          · exact e
          · exact absurd e.symm hne
          · exact absurd ((befB_vlt x v).2 e) hb
        rw [List.pairwise_cons]
        refine ⟨fun u hu => ?_, List.pairwise_cons.2 h⟩
        rcases List.mem_cons.1 hu with e | e
        · subst e; exact hvx
        · exact vlt_trans hvx (h.1 u e)
/-- all of some points put into a list, one after the other -/
def putAll (l : List V3) : List V3 := l.foldl (fun out v => putL v out) []
theorem putAll_snoc (l : List V3) (v : V3) : putAll (l ++ [v]) = putL v (putAll l) := by simp [putAll]
theorem putAll_props (l : List V3) : (putAll l).Pairwise vlt ∧ (∀ v, v ∈ putAll l ↔ v ∈ l) ∧ (putAll l).length ≤ l.length := by
  have key : ∀ (l : List V3) (out : List V3), out.Pairwise vlt → (l.foldl (fun out v => putL v out) out).Pairwise vlt ∧ (∀ v, v ∈ l.foldl (fun out v => putL v out) out ↔ v ∈ l ∨ v ∈ out) ∧ (l.foldl (fun out v => putL v out) out).length ≤ l.length + out.length := by
    have hlen : ∀ (v : V3) (xs : List V3), (putL v xs).length ≤ xs.length + 1 := by
      intro v xs
      induction xs with
      | nil => simp [putL]
      | cons x xs ih =>
        simp only [putL]
        split
        · simp only [List.length_cons]; omega
        · split <;> simp
    intro l
    induction l with
    | nil => intro out ho; exact ⟨ho, by simp, by simp⟩
    | cons a l ih =>
      intro out ho
      obtain ⟨h1, h2, h3⟩ := ih (putL a out) (putL_asc a ho)
      refine ⟨h1, fun v => ?_, ?_⟩
      · rw [List.foldl_cons, h2 v, mem_putL]
        simp only [List.mem_cons]
        constructor
        · rintro (h | h | h)
          · exact .inl (.inr h)
          · exact .inl (.inl h)
          · exact .inr h
        · rintro ((h | h) | h)
          · exact .inr (.inl h)
          · exact .inl h
          · exact .inr (.inr h)
      · have := hlen a out
        simp only [List.foldl_cons, List.length_cons]
        omega
  obtain ⟨h1, h2, h3⟩ := key l [] List.Pairwise.nil
  exact ⟨h1, fun v => by rw [putAll, h2 v]; simp, by simpa [putAll] using h3⟩
/-- the sorted list, as a list -/
theorem sortV_asc (xs : List V3) (i j : Nat) (hij : i < j) (hj : j < (sortBy cmpV xs).length) : ¬ vlt ((sortBy cmpV xs)[j]) ((sortBy cmpV xs)[i]) := by
  have h := (sortBy_perm cmpV_swo xs).2 i j (Nat.zero_le _) hij (by rw [← sortV_len]; exact hj)
  intro hv
  have h2 := (ltOf_vlt _ _).2 hv
  have e1 : (sortBy cmpV xs).toArray[j]! = (sortBy cmpV xs)[j] := by simp [hj]
  have e2 : (sortBy cmpV xs).toArray[i]! = (sortBy cmpV xs)[i] := by simp [show i < (sortBy cmpV xs).length by omega]
  rw [e1, e2, h2] at h
  cases h
theorem cpV_props (ys : List V3) (hs : ∀ (i j : Nat) (_ : i < j) (hj : j < ys.length), ¬ vlt ys[j] ys[i]) :
    ∀ j, j ≤ ys.length → (cpV ys j).Pairwise vlt ∧ ∀ v, v ∈ cpV ys j ↔ v ∈ ys.take j := by
  intro j
  induction j with
  | zero => intro _; simp [cpV]
  | succ j ih =>
    intro hj
    obtain ⟨h1, h2⟩ := ih (by omega)
    have hj' : j < ys.length := by omega
    have htk : ys.take (j + 1) = ys.take j ++ [ys[j]] := by rw [List.take_add_one, List.getElem?_eq_getElem hj']; rfl
    by_cases hc : j = 0 ∨ ys[j] ≠ ys[j - 1]
    · rw [cpV_new hj' hc, htk]
      refine ⟨?_, fun v => by simp only [List.mem_append, h2 v]⟩
      rw [List.pairwise_append]
      refine ⟨h1, List.pairwise_singleton _ _, fun u hu w hw => ?_⟩
      rw [List.mem_singleton] at hw
      subst hw
      have hu' := (h2 u).1 hu
      obtain ⟨m, hm, rfl⟩ := List.mem_iff_getElem.1 hu'
      rw [List.length_take] at hm
      rw [List.getElem_take]
      rcases vlt_tri ys[m] ys[j] with e | e | e
      · exact e
      · exfalso
        rcases hc with hc | hc
        · omega
        · by_cases hmj : m = j - 1
          · subst hmj; exact hc e.symm
          · have g1 := hs m (j - 1) (by omega) (by omega)
            have g2 := hs (j - 1) j (by omega) hj'
            rcases vlt_tri ys[j - 1] ys[j] with q | q | q
            · rw [← e] at q; exact g1 q
            · exact hc q.symm
            · exact g2 q
      · exact absurd e (hs m j (by omega) hj')
    · have h0 : j ≠ 0 := fun h => hc (.inl h)
      have he : ys[j] = ys[j - 1] := Classical.byContradiction fun h => hc (.inr h)
      rw [cpV_same hj' h0 he, htk]
      refine ⟨h1, fun v => ?_⟩
      rw [h2 v, List.mem_append, List.mem_singleton]
      constructor
      · exact .inl
      · rintro (h | h)
        · exact h
        · subst h
          rw [he]
          exact List.mem_iff_getElem.2 ⟨j - 1, by rw [List.length_take]; omega, by rw [List.getElem_take]⟩
theorem distL_props (xs : List V3) : (distL xs).Pairwise vlt ∧ ∀ v, v ∈ distL xs ↔ v ∈ xs := by
  obtain ⟨h1, h2⟩ := cpV_props (sortBy cmpV xs) (fun i j hij hj => sortV_asc xs i j hij hj) (sortBy cmpV xs).length (Nat.le_refl _)
  refine ⟨h1, fun v => ?_⟩
  rw [distL, h2 v, List.take_length]
  exact (sortBy_perm cmpV_swo xs).1.mem_iff
theorem asc_nodup {l : List V3} (h : l.Pairwise vlt) : l.Nodup := h.imp (fun {a b} hab e => by subst e; exact vlt_irrefl a hab)
/-- the facets: each once -/
theorem scanF_props (xs : List V3) (l : List Pl) : (scanF xs l).2.Nodup ∧ ∀ p, p ∈ (scanF xs l).2 ↔ p ∈ l ∧ beyond xs p = false := by
  have key : ∀ (l : List Pl) (s : List Pl × List Pl), s.2.Nodup → (∀ p, p ∈ s.2 → p ∈ s.1) → (∀ p, p ∈ s.2 ↔ p ∈ s.1 ∧ beyond xs p = false) →
      (l.foldl (stepF xs) s).2.Nodup ∧ (∀ p, p ∈ (l.foldl (stepF xs) s).2 ↔ (p ∈ l ∨ p ∈ s.1) ∧ beyond xs p = false) := by
    intro l
    induction l with
    | nil => intro s h1 h2 h3; exact ⟨h1, fun p => by simpa using h3 p⟩
    | cons a l ih =>
      intro s h1 h2 h3
      rw [List.foldl_cons]
      by_cases ha : a ∈ s.1
      · have e : stepF xs s a = s := by rw [stepF, if_pos ha]
        rw [e]
        obtain ⟨g1, g2⟩ := ih s h1 h2 h3
        refine ⟨g1, fun p => ?_⟩
        rw [g2 p]
        simp only [List.mem_cons]
        constructor
        · rintro ⟨h | h, hb⟩
          · exact ⟨.inl (.inr h), hb⟩
          · exact ⟨.inr h, hb⟩
        · rintro ⟨(h | h) | h, hb⟩
          · subst h; exact ⟨.inr ha, hb⟩
          · exact ⟨.inl h, hb⟩
          · exact ⟨.inr h, hb⟩
      · have e : stepF xs s a = (s.1 ++ [a], if beyond xs a then s.2 else s.2 ++ [a]) := by rw [stepF, if_neg ha]
        rw [e]
        obtain ⟨g1, g2⟩ := ih (s.1 ++ [a], if beyond xs a then s.2 else s.2 ++ [a])
          (by
            simp only
            split
            · exact h1
            · rw [List.nodup_append]
              exact ⟨h1, by simp, fun x hx y hy hxy => by simp at hy; subst hy; subst hxy; exact ha (h2 x hx)⟩)
          (by
            simp only
            intro p
            split
            · intro hp; exact List.mem_append_left _ (h2 p hp)
            · intro hp
              rcases List.mem_append.1 hp with h | h
              · exact List.mem_append_left _ (h2 p h)
              · exact List.mem_append_right _ h)
          (by
            simp only
            intro p
            cases hb : beyond xs a
            · simp only [Bool.false_eq_true, if_false, List.mem_append, List.mem_singleton, h3 p]
              constructor
              · rintro (⟨h, h'⟩ | h)
                · exact ⟨.inl h, h'⟩
                · subst h; exact ⟨.inr rfl, hb⟩
              · rintro ⟨h | h, h'⟩
                · exact .inl ⟨h, h'⟩
                · exact .inr h
            · simp only [if_true, List.mem_append, List.mem_singleton, h3 p]
              constructor
              · rintro ⟨h, h'⟩; exact ⟨.inl h, h'⟩
              · rintro ⟨h | h, h'⟩
                · exact ⟨h, h'⟩
                · subst h; rw [hb] at h'; cases h')
        refine ⟨g1, fun p => ?_⟩
        rw [g2 p]
        simp only [List.mem_cons, List.mem_append, List.not_mem_nil, or_false]
        constructor
        · rintro ⟨h | h | h, hb⟩
          · exact ⟨.inl (.inr h), hb⟩
          · exact ⟨.inr h, hb⟩
          · exact ⟨.inl (.inl h), hb⟩
        · rintro ⟨(h | h) | h, hb⟩
          · exact ⟨.inr (.inr h), hb⟩
          · exact ⟨.inl h, hb⟩
          · exact ⟨.inr (.inl h), hb⟩
  obtain ⟨h1, h2⟩ := key l ([], []) List.nodup_nil (by simp) (by simp)
  exact ⟨h1, fun p => by rw [scanF, h2 p]; simp⟩
theorem facesL_props (xs : List V3) : (facesL xs).Nodup ∧ ∀ p, p ∈ facesL xs ↔ p ∈ trip (distL xs) ∧ beyond xs p = false := by
  obtain ⟨h1, h2⟩ := scanF_props (distL xs) (trip (distL xs))
  have hp := (sortBy_perm cmpP_swo (scanF (distL xs) (trip (distL xs))).2).1
  refine ⟨hp.symm.nodup h1, fun p => ?_⟩
  rw [facesL, hp.mem_iff, h2 p]
  have : beyond (distL xs) p = beyond xs p := by
    rw [Bool.eq_iff_iff, beyond, beyond, List.any_eq_true, List.any_eq_true]
    constructor
    · rintro ⟨v, hv, h⟩; exact ⟨v, ((distL_props xs).2 v).1 hv, h⟩
    · rintro ⟨v, hv, h⟩; exact ⟨v, ((distL_props xs).2 v).2 hv, h⟩
  rw [this]
end Go.Proofs.YtlbafapmhjfobaaGreatDoor
namespace Go.Proofs.YtlbafapmhjfobaaGreatDoor
def V3.smul (k : Int) (v : V3) : V3 := ⟨k * v.x, k * v.y, k * v.z⟩
theorem V3.ext' {a b : V3} (h1 : a.x = b.x) (h2 : a.y = b.y) (h3 : a.z = b.z) : a = b := by
  cases a; cases b; simp at *; exact ⟨h1, h2, h3⟩
theorem V3.gcd_eq (v : V3) : v.gcd = Nat.gcd (Nat.gcd v.x.natAbs v.y.natAbs) v.z.natAbs := by simp [V3.gcd, gcdL]
theorem gcd_smul (k : Int) (v : V3) : (V3.smul k v).gcd = k.natAbs * v.gcd := by
  rw [V3.gcd_eq, V3.gcd_eq]
  simp only [V3.smul, Int.natAbs_mul, Nat.gcd_mul_left]
theorem gcd_zero {v : V3} (h : v.gcd = 0) : v = ⟨0, 0, 0⟩ := by
  rw [V3.gcd_eq, Nat.gcd_eq_zero_iff, Nat.gcd_eq_zero_iff] at h
  exact V3.ext' (by simpa using h.1.1) (by simpa using h.1.2) (by simpa using h.2)
theorem gcd_zero' : (⟨0, 0, 0⟩ : V3).gcd = 0 := by rw [V3.gcd_eq]; rfl
theorem tdiv_mul {k x : Int} (hk : 0 < k) : (k * x).tdiv k = x := Int.mul_tdiv_cancel_left x (by omega)
theorem prim_of {n : V3} {g : Int} (h1 : n.gcd = 1) (hg : 0 < g) : (V3.smul g n).prim = (n, g) := by
  have hgcd : (V3.smul g n).gcd = g.natAbs := by rw [gcd_smul, h1, Nat.mul_one]
  unfold V3.prim
  rw [hgcd, if_neg (by omega)]
  have hc : ((g.natAbs : Nat) : Int) = g := by omega
  rw [hc]
  simp only [V3.div, V3.smul, tdiv_mul hg]
theorem prim_ex {v : V3} (h : v.gcd ≠ 0) : v = V3.smul v.prim.2 v.prim.1 ∧ v.prim.1.gcd = 1 ∧ 0 < v.prim.2 := by
  have hd (x : Int) (hx : v.gcd ∣ x.natAbs) : (v.gcd : Int) * x.tdiv v.gcd = x := Int.mul_tdiv_cancel' (Int.ofNat_dvd_left.2 hx)
  have d1 : v.gcd ∣ v.x.natAbs := by rw [V3.gcd_eq]; exact Nat.dvd_trans (Nat.gcd_dvd_left _ _) (Nat.gcd_dvd_left _ _)
  have d2 : v.gcd ∣ v.y.natAbs := by rw [V3.gcd_eq]; exact Nat.dvd_trans (Nat.gcd_dvd_left _ _) (Nat.gcd_dvd_right _ _)
  have d3 : v.gcd ∣ v.z.natAbs := by rw [V3.gcd_eq]; exact Nat.gcd_dvd_right _ _
  have e : v = V3.smul v.gcd (v.div v.gcd) := V3.ext' (hd _ d1).symm (hd _ d2).symm (hd _ d3).symm
  have e2 : v.prim = (v.div v.gcd, (v.gcd : Int)) := by rw [V3.prim, if_neg h]
  rw [e2]
  refine ⟨e, ?_, by simp only; omega⟩
  have h3 := congrArg V3.gcd e
  rw [gcd_smul] at h3
  simp only [Int.natAbs_natCast] at h3
  simp only
  exact Nat.eq_of_mul_eq_mul_left (show 0 < v.gcd by omega) (by rw [← h3, Nat.mul_one])
theorem smul_inj {n m : V3} {g h : Int} (h1 : n.gcd = 1) (h2 : m.gcd = 1) (hg : 0 < g) (hh : 0 < h) (e : V3.smul g n = V3.smul h m) : n = m ∧ g = h := by
  have a := prim_of h1 hg
  rw [e, prim_of h2 hh] at a
  exact ⟨(congrArg Prod.fst a).symm, (congrArg Prod.snd a).symm⟩
/-- the plane through three points -/
def Thr (a b c : V3) (p : Pl) : Prop :=
  a.inB = true ∧ b.inB = true ∧ c.inB = true ∧ p.n.gcd = 1 ∧ (∃ g : Int, 0 < g ∧ (b.sub a).cross (c.sub a) = V3.smul g p.n) ∧ p.b = p.n.dot a
theorem thr_iff (a b c : V3) (p : Pl) : through a b c = (p, true) ↔ Thr a b c p := by
  constructor
  · intro h
    unfold through at h
    split at h
    · rename_i hin
      simp only [Bool.and_eq_true] at hin
      obtain ⟨n, d⟩ := p
      simp only [Prod.mk.injEq, Pl.mk.injEq, decide_eq_true_eq] at h
      obtain ⟨⟨h1, h2⟩, h3⟩ := h
      have hg : ((b.sub a).cross (c.sub a)).gcd ≠ 0 := by
        intro h0
        rw [V3.prim, if_pos h0] at h3
        simp at h3
      obtain ⟨e1, e2, e3⟩ := prim_ex hg
      rw [h1] at e1 e2 h2
      exact ⟨hin.1.1, hin.1.2, hin.2, e2, ⟨_, e3, e1⟩, h2.symm⟩
    · simp at h
  · rintro ⟨h1, h2, h3, h4, ⟨g, hg, h5⟩, h6⟩
    obtain ⟨n, d⟩ := p
    simp only at h4 h5 h6
    unfold through
    rw [h1, h2, h3, h5, prim_of h4 hg]
    simp [hg, h6]
theorem V3.sub_def (a b : V3) : a.sub b = ⟨a.x - b.x, a.y - b.y, a.z - b.z⟩ := rfl
theorem cross_rot (a b c : V3) : (c.sub b).cross (a.sub b) = (b.sub a).cross (c.sub a) := by
  refine V3.ext' ?_ ?_ ?_ <;> simp only [V3.cross, V3.sub] <;> grind
theorem cross_swap (a b c : V3) : (c.sub a).cross (b.sub a) = V3.smul (-1) ((b.sub a).cross (c.sub a)) := by
  refine V3.ext' ?_ ?_ ?_ <;> simp only [V3.cross, V3.sub, V3.smul] <;> grind
theorem cross_dot (a b c : V3) : ((b.sub a).cross (c.sub a)).dot b = ((b.sub a).cross (c.sub a)).dot a := by
  simp only [V3.cross, V3.sub, V3.dot]; grind
theorem smul_dot (g : Int) (n v : V3) : (V3.smul g n).dot v = g * n.dot v := by
  simp only [V3.smul, V3.dot]; grind
theorem Thr.rot {a b c : V3} {p : Pl} (h : Thr a b c p) : Thr b c a p := by
  obtain ⟨h1, h2, h3, h4, ⟨g, hg, h5⟩, h6⟩ := h
  refine ⟨h2, h3, h1, h4, ⟨g, hg, by rw [cross_rot, h5]⟩, ?_⟩
  have e := cross_dot a b c
  rw [h5, smul_dot, smul_dot] at e
  rw [h6]
  exact (Int.eq_of_mul_eq_mul_left (by omega) e).symm
theorem flip_n (p : Pl) : p.flip.n = V3.smul (-1) p.n := by
  refine V3.ext' ?_ ?_ ?_ <;> simp only [Pl.flip, V3.sub, V3.smul] <;> omega
theorem flip_flip (p : Pl) : p.flip.flip = p := by
  obtain ⟨⟨x, y, z⟩, b⟩ := p
  simp [Pl.flip, V3.sub]
theorem smul_smul (g h : Int) (n : V3) : V3.smul g (V3.smul h n) = V3.smul (g * h) n := by
  simp only [V3.smul]; refine V3.ext' ?_ ?_ ?_ <;> simp only <;> grind
theorem Thr.swap {a b c : V3} {p : Pl} (h : Thr a b c p) : Thr a c b p.flip := by
  obtain ⟨h1, h2, h3, h4, ⟨g, hg, h5⟩, h6⟩ := h
  refine ⟨h1, h3, h2, ?_, ⟨g, hg, ?_⟩, ?_⟩
  · rw [flip_n, gcd_smul, h4]; rfl
  · rw [cross_swap, h5, flip_n, smul_smul, smul_smul, Int.mul_comm]
  · rw [flip_n, smul_dot, ← h6]
    simp only [Pl.flip]; omega
theorem Thr.unique {a b c : V3} {p q : Pl} (h : Thr a b c p) (h' : Thr a b c q) : p = q := by
  have e := ((thr_iff a b c p).2 h).symm.trans ((thr_iff a b c q).2 h')
  exact congrArg Prod.fst e
theorem Thr.ne {a b c : V3} {p : Pl} (h : Thr a b c p) : a ≠ b ∧ b ≠ c ∧ a ≠ c := by
  have key : ∀ {a b c : V3} {p : Pl}, Thr a b c p → a ≠ b := by
    rintro a b c p ⟨_, _, _, h4, ⟨g, hg, h5⟩, _⟩ rfl
    have e : (a.sub a).cross (c.sub a) = ⟨0, 0, 0⟩ := by
      refine V3.ext' ?_ ?_ ?_ <;> simp only [V3.cross, V3.sub] <;> grind
    rw [e] at h5
    have := congrArg V3.gcd h5
    rw [gcd_smul, h4, gcd_zero'] at this
    omega
  exact ⟨key h, key h.rot, fun e => key h.rot.rot e.symm⟩
/-- .. through some three of a list -/
def Fac (xs : List V3) (p : Pl) : Prop := ∃ a b c, a ∈ xs ∧ b ∈ xs ∧ c ∈ xs ∧ Thr a b c p
theorem mem_tri {xs : List V3} {i j k : Nat} {p : Pl} (hi : i < xs.length) (hj : j < xs.length) (hk : k < xs.length) :
    p ∈ tri xs i j k ↔ Thr xs[k] xs[j] xs[i] p ∨ Thr xs[k] xs[i] xs[j] p := by
  unfold tri
  rw [List.getElem?_eq_getElem hi, List.getElem?_eq_getElem hj, List.getElem?_eq_getElem hk]
  simp only
  constructor
  · intro h
    split at h
    · rename_i ht
      have e : Thr xs[k] xs[j] xs[i] (through xs[k] xs[j] xs[i]).1 := (thr_iff _ _ _ _).1 (by rw [← ht])
      simp only [List.mem_cons, List.not_mem_nil, or_false] at h
      rcases h with h | h
      · rw [h]; exact .inl e
      · rw [h]; exact .inr e.swap
    · simp at h
  · intro h
    rcases h with h | h
    · rw [(thr_iff _ _ _ _).2 h]
      simp
    · have h2 := h.swap
      rw [(thr_iff _ _ _ _).2 h2]
      simp [flip_flip]
theorem mem_trip {xs : List V3} {p : Pl} : p ∈ trip xs ↔ Fac xs p := by
  have hm : p ∈ trip xs ↔ ∃ i j k, i < xs.length ∧ j < i ∧ k < j ∧ p ∈ tri xs i j k := by
    simp only [trip, trip1, trip2, trip3, List.mem_flatMap, List.mem_range]
    constructor
    · rintro ⟨i, hi, j, hj, k, hk, h⟩; exact ⟨i, j, k, hi, hj, hk, h⟩
    · rintro ⟨i, j, k, hi, hj, hk, h⟩; exact ⟨i, hi, j, hj, k, hk, h⟩
  rw [hm]
  constructor
  · rintro ⟨i, j, k, hi, hj, hk, h⟩
    rw [mem_tri hi (by omega) (by omega)] at h
    rcases h with h | h
    · exact ⟨_, _, _, List.getElem_mem _, List.getElem_mem _, List.getElem_mem _, h⟩
    · exact ⟨_, _, _, List.getElem_mem _, List.getElem_mem _, List.getElem_mem _, h⟩
  · rintro ⟨a, b, c, ha, hb, hc, h⟩
    obtain ⟨i, hi, rfl⟩ := List.mem_iff_getElem.1 ha
    obtain ⟨j, hj, rfl⟩ := List.mem_iff_getElem.1 hb
    obtain ⟨k, hk, rfl⟩ := List.mem_iff_getElem.1 hc
    obtain ⟨n1, n2, n3⟩ := h.ne
    have m1 : i ≠ j := fun e => by subst e; exact n1 rfl
    have m2 : j ≠ k := fun e => by subst e; exact n2 rfl
    have m3 : i ≠ k := fun e => by subst e; exact n3 rfl
    have hcase : (i < j ∧ j < k) ∨ (i < k ∧ k < j) ∨ (j < i ∧ i < k) ∨ (j < k ∧ k < i) ∨ (k < i ∧ i < j) ∨ (k < j ∧ j < i) := by omega
    rcases hcase with ⟨q1, q2⟩ | ⟨q1, q2⟩ | ⟨q1, q2⟩ | ⟨q1, q2⟩ | ⟨q1, q2⟩ | ⟨q1, q2⟩
    · exact ⟨k, j, i, hk, q2, q1, (mem_tri hk hj hi).2 (.inl h)⟩
    · exact ⟨j, k, i, hj, q2, q1, (mem_tri hj hk hi).2 (.inr h)⟩
    · exact ⟨k, i, j, hk, q2, q1, (mem_tri hk hi hj).2 (.inr h.rot)⟩
    · exact ⟨i, k, j, hi, q2, q1, (mem_tri hi hk hj).2 (.inl h.rot)⟩
    · exact ⟨j, i, k, hj, q2, q1, (mem_tri hj hi hk).2 (.inl h.rot.rot)⟩
    · exact ⟨i, j, k, hi, q2, q1, (mem_tri hi hj hk).2 (.inr h.rot.rot)⟩
/-- three normals that are independent -/
theorem vertexB_iff (own : List Pl) : vertexB own = true ↔ ∃ p q r, p ∈ own ∧ q ∈ own ∧ r ∈ own ∧ (p.n.cross q.n).dot r.n ≠ 0 := by
  have anti : ∀ (a b c : V3), (a.cross b).dot c = -((b.cross a).dot c) := by
    intro a b c; simp only [V3.cross, V3.dot]; grind
  have self : ∀ (a c : V3), (a.cross a).dot c = 0 := by
    intro a c; simp only [V3.cross, V3.dot]; grind
  have z0 : ∀ (a b c : V3), (a.cross b).dot c ≠ 0 → (a.cross b != ⟨0, 0, 0⟩) = true := by
    intro a b c h
    rw [bne_iff_ne]
    intro e
    rw [e] at h
    simp [V3.dot] at h
  have hvx : ∀ p q, vx own p q = true ↔ ∃ r, r ∈ own ∧ (p.n.cross q.n).dot r.n ≠ 0 := by
    intro p q
    simp only [vx, Bool.and_eq_true, List.any_eq_true]
    constructor
    · rintro ⟨_, r, hr, h⟩; exact ⟨r, hr, by simpa using h⟩
    · rintro ⟨r, hr, h⟩; exact ⟨z0 _ _ _ h, r, hr, by simpa using h⟩
  simp only [vertexB, List.any_eq_true, List.mem_range]
  constructor
  · rintro ⟨i, hi, h⟩
    rw [List.getElem?_eq_getElem hi] at h
    simp only [List.any_eq_true] at h
    obtain ⟨q, hq, h⟩ := h
    obtain ⟨r, hr, h⟩ := (hvx _ _).1 h
    exact ⟨own[i], q, r, List.getElem_mem _, List.mem_of_mem_take hq, hr, h⟩
  · rintro ⟨p, q, r, hp, hq, hr, h⟩
    obtain ⟨i, hi, rfl⟩ := List.mem_iff_getElem.1 hp
    obtain ⟨j, hj, rfl⟩ := List.mem_iff_getElem.1 hq
    have hij : i ≠ j := by rintro rfl; exact h (self _ _)
    have tk : ∀ {m n : Nat} (_ : m < n) (hm : m < own.length), own[m] ∈ own.take n := by
      intro m n hmn hm
      exact List.mem_iff_getElem.2 ⟨m, by rw [List.length_take]; omega, by rw [List.getElem_take]⟩
    rcases Nat.lt_or_gt_of_ne hij with hlt | hgt
    · refine ⟨j, hj, ?_⟩
      rw [List.getElem?_eq_getElem hj]
      simp only [List.any_eq_true]
      exact ⟨own[i], tk hlt hi, (hvx _ _).2 ⟨r, hr, by rw [anti]; omega⟩⟩
    · refine ⟨i, hi, ?_⟩
      rw [List.getElem?_eq_getElem hi]
      simp only [List.any_eq_true]
      exact ⟨own[j], tk hgt hj, (hvx _ _).2 ⟨r, hr, h⟩⟩
end Go.Proofs.YtlbafapmhjfobaaGreatDoor
namespace Go.Proofs.YtlbafapmhjfobaaGreatDoor
/-- a rotation (all that the proofs need of it) -/
structure Rt (t : Tn) : Prop where
  d1 : 1 ≤ t.d
  k0 : t.m.r1.cross t.m.r2 = V3.smul t.d t.m.r0
  k1 : t.m.r2.cross t.m.r0 = V3.smul t.d t.m.r1
  k2 : t.m.r0.cross t.m.r1 = V3.smul t.d t.m.r2
  n0 : t.m.r0.dot t.m.r0 = t.d * t.d
  n1 : t.m.r1.dot t.m.r1 = t.d * t.d
  n2 : t.m.r2.dot t.m.r2 = t.d * t.d
  e00 : t.m.c0.dot t.m.c0 = t.d * t.d
  e11 : t.m.c1.dot t.m.c1 = t.d * t.d
  e22 : t.m.c2.dot t.m.c2 = t.d * t.d
  e01 : t.m.c0.dot t.m.c1 = 0
  e02 : t.m.c0.dot t.m.c2 = 0
  e12 : t.m.c1.dot t.m.c2 = 0
def rtB (t : Tn) : Bool :=
  decide (1 ≤ t.d) && (t.m.r1.cross t.m.r2 == V3.smul t.d t.m.r0 && (t.m.r2.cross t.m.r0 == V3.smul t.d t.m.r1 && (t.m.r0.cross t.m.r1 == V3.smul t.d t.m.r2 &&
  (t.m.r0.dot t.m.r0 == t.d * t.d && (t.m.r1.dot t.m.r1 == t.d * t.d && (t.m.r2.dot t.m.r2 == t.d * t.d &&
  (t.m.c0.dot t.m.c0 == t.d * t.d && (t.m.c1.dot t.m.c1 == t.d * t.d && (t.m.c2.dot t.m.c2 == t.d * t.d && (t.m.c0.dot t.m.c1 == 0 && (t.m.c0.dot t.m.c2 == 0 && t.m.c1.dot t.m.c2 == 0)))))))))))
theorem rtB_spec {t : Tn} (h : rtB t = true) : Rt t := by
  simp only [rtB, Bool.and_eq_true, decide_eq_true_eq, beq_iff_eq] at h
  obtain ⟨a1, a2, a3, a4, a5, a6, a7, a8, a9, b1, b2, b3, b4⟩ := h
  exact ⟨a1, a2, a3, a4, a5, a6, a7, a8, a9, b1, b2, b3, b4⟩
theorem all_rt : ∀ a ∈ slantL, ∀ k : Fin 24, rtB (raft a (tget k.val)) = true := by decide +kernel
theorem of_smul (m : M3) (k : Int) (v : V3) : m.of (V3.smul k v) = V3.smul k (m.of v) := by
  refine V3.ext' ?_ ?_ ?_ <;> simp only [M3.of, V3.smul, V3.dot] <;> grind
theorem of_sub (m : M3) (a b : V3) : m.of (a.sub b) = (m.of a).sub (m.of b) := by
  refine V3.ext' ?_ ?_ ?_ <;> simp only [M3.of, V3.sub, V3.dot] <;> grind
theorem of_cross {t : Tn} (h : Rt t) (x y : V3) : (t.m.of x).cross (t.m.of y) = V3.smul t.d (t.m.of (x.cross y)) := by
  have bc : ∀ (p q x y : V3), p.dot x * q.dot y - q.dot x * p.dot y = (p.cross q).dot (x.cross y) := by
    intro p q x y; simp only [V3.dot, V3.cross]; grind
  refine V3.ext' ?_ ?_ ?_
  · show t.m.r1.dot x * t.m.r2.dot y - t.m.r2.dot x * t.m.r1.dot y = t.d * t.m.r0.dot (x.cross y)
    rw [bc, h.k0, smul_dot]
  · show t.m.r2.dot x * t.m.r0.dot y - t.m.r0.dot x * t.m.r2.dot y = t.d * t.m.r1.dot (x.cross y)
    rw [bc, h.k1, smul_dot]
  · show t.m.r0.dot x * t.m.r1.dot y - t.m.r1.dot x * t.m.r0.dot y = t.d * t.m.r2.dot (x.cross y)
    rw [bc, h.k2, smul_dot]
theorem of_dot {t : Tn} (h : Rt t) (x y : V3) : (t.m.of x).dot (t.m.of y) = t.d * t.d * x.dot y := by
  have e : (t.m.of x).dot (t.m.of y) = x.x * y.x * t.m.c0.dot t.m.c0 + x.y * y.y * t.m.c1.dot t.m.c1 + x.z * y.z * t.m.c2.dot t.m.c2
      + (x.x * y.y + x.y * y.x) * t.m.c0.dot t.m.c1 + (x.x * y.z + x.z * y.x) * t.m.c0.dot t.m.c2 + (x.y * y.z + x.z * y.y) * t.m.c1.dot t.m.c2 := by
    simp only [M3.of, V3.dot, M3.r0, M3.r1, M3.r2, M3.c0, M3.c1, M3.c2]; grind
  rw [e, h.e00, h.e11, h.e22, h.e01, h.e02, h.e12]
  simp only [V3.dot]; grind
theorem dot_pos {n : V3} (h : n.gcd ≠ 0) : 0 < n.dot n := by
  have sq : ∀ x : Int, 0 ≤ x * x := fun x => by
    rcases Int.le_total 0 x with hx | hx
    · exact Int.mul_nonneg hx hx
    · exact Int.mul_nonneg_of_nonpos_of_nonpos hx hx
  have sq1 : ∀ x : Int, x ≠ 0 → 0 < x * x := fun x hx => by
    have := sq x
    have : x * x ≠ 0 := Int.mul_ne_zero hx hx
    omega
  have h1 := sq n.x
  have h2 := sq n.y
  have h3 := sq n.z
  unfold V3.dot
  by_cases hx : n.x = 0
  · by_cases hy : n.y = 0
    · by_cases hz : n.z = 0
      · exfalso
        apply h
        have : n = ⟨0, 0, 0⟩ := V3.ext' hx hy hz
        rw [this, gcd_zero']
      · have := sq1 _ hz; omega
    · have := sq1 _ hy; omega
  · have := sq1 _ hx; omega
/-- Cauchy and Schwarz -/
theorem dot_sq (r u : V3) : r.dot u * r.dot u ≤ r.dot r * u.dot u := by
  have e : r.dot r * u.dot u = r.dot u * r.dot u + (r.cross u).dot (r.cross u) := by
    simp only [V3.dot, V3.cross]; grind
  have : 0 ≤ (r.cross u).dot (r.cross u) := by
    by_cases h : (r.cross u).gcd = 0
    · rw [gcd_zero h]; decide
    · exact Int.le_of_lt (dot_pos h)
  omega
theorem sq_bd {x : Int} (h : x * x ≤ 363) : -19 ≤ x ∧ x ≤ 19 := by
  constructor
  · apply Classical.byContradiction
    intro hx
    have := Int.mul_le_mul (a := 20) (b := 20) (c := -x) (d := -x) (by omega) (by omega) (by omega) (by omega)
    rw [Int.neg_mul_neg] at this
    omega
  · apply Classical.byContradiction
    intro hx
    have := Int.mul_le_mul (a := 20) (b := 20) (c := x) (d := x) (by omega) (by omega) (by omega) (by omega)
    omega
theorem row_bd {d : Int} {r u : V3} (hr : r.dot r = d * d) (hv : (V3.smul d u).bd 11) : -19 ≤ r.dot u ∧ r.dot u ≤ 19 := by
  apply sq_bd
  have h1 := dot_sq r u
  have e : r.dot r * u.dot u = (V3.smul d u).dot (V3.smul d u) := by
    rw [hr]; simp only [V3.dot, V3.smul]; grind
  have q : ∀ x : Int, -11 ≤ x ∧ x ≤ 11 → x * x ≤ 121 := by
    intro x hx
    have := mul_bd hx hx
    omega
  have q1 := q _ hv.1
  have q2 := q _ hv.2.1
  have q3 := q _ hv.2.2
  rw [e] at h1
  simp only [V3.dot] at h1 ⊢
  omega
/-- where a point goes, that is d times u -/
def mvu (f : Fr) (u : V3) : V3 := (f.t.m.of u).add f.s
theorem bd_inB {v : V3} (h : v.bd 24) : v.inB = true := by
  unfold V3.bd at h
  simp [V3.inB, withinI]
  omega
theorem mvu_inB {f : Fr} (h : Rt f.t) (hs : f.s.bd 4) {u : V3} (hv : (V3.smul f.t.d u).bd 11) : (mvu f u).inB = true := by
  have h0 := row_bd h.n0 hv
  have h1 := row_bd h.n1 hv
  have h2 := row_bd h.n2 hv
  apply bd_inB
  unfold V3.bd at hs
  simp only [V3.bd, mvu, V3.add, M3.of]
  omega
theorem smul_div {d : Int} (hd : 0 < d) (w : V3) : (V3.smul d w).div d = w := V3.ext' (tdiv_mul hd) (tdiv_mul hd) (tdiv_mul hd)
theorem smul_mods (d : Int) (w : V3) : (V3.smul d w).mods d = true := by
  simp [V3.mods, V3.smul, Int.mul_tmod_right]
theorem apply_ok {f : Fr} (hf : f.ok = true) (h : Rt f.t) (hs : f.s.bd 4) {u : V3} (hv : (V3.smul f.t.d u).bd 11) : apply f (V3.smul f.t.d u) = (mvu f u, true) := by
  have hd := h.d1
  unfold apply
  rw [hf, bd_inB (hv.mono (by omega))]
  simp only [Bool.and_self, if_true, of_smul, smul_div (show 0 < f.t.d by omega), smul_mods]
  rw [show ((f.t.m.of u).add f.s).inB = true from mvu_inB h hs hv]
  rfl
theorem smul_sub (d : Int) (a b : V3) : (V3.smul d a).sub (V3.smul d b) = V3.smul d (a.sub b) := by
  refine V3.ext' ?_ ?_ ?_ <;> simp only [V3.sub, V3.smul] <;> grind
theorem smul_cross (d : Int) (a b : V3) : (V3.smul d a).cross (V3.smul d b) = V3.smul (d * d) (a.cross b) := by
  refine V3.ext' ?_ ?_ ?_ <;> simp only [V3.cross, V3.smul] <;> grind
theorem mvu_sub (f : Fr) (a b : V3) : (mvu f a).sub (mvu f b) = f.t.m.of (a.sub b) := by
  rw [of_sub]
  refine V3.ext' ?_ ?_ ?_ <;> simp only [mvu, V3.sub, V3.add] <;> omega
theorem dot_add (n a b : V3) : n.dot (a.add b) = n.dot a + n.dot b := by simp only [V3.dot, V3.add]; grind
theorem dot_sub (n a b : V3) : n.dot (a.sub b) = n.dot a - n.dot b := by simp only [V3.dot, V3.sub]; grind
theorem dot_smul (g : Int) (n v : V3) : n.dot (V3.smul g v) = g * n.dot v := by simp only [V3.smul, V3.dot]; grind
theorem Thr.okB {a b c : V3} {p : Pl} (h : Thr a b c p) : p.okB = true := by
  have hb := through_bd a b c
  rw [(thr_iff a b c p).2 h] at hb
  obtain ⟨⟨b1, b2, b3⟩, b4, b5⟩ := hb
  simp only at b1 b2 b3 b4 b5
  simp only [Pl.okB, h.2.2.2.1, withinI]
  simp
  omega
/-- a plane p is moved to q -/
def Mov (f : Fr) (p q : Pl) : Prop := ∃ h : Int, 0 < h ∧ f.t.m.of p.n = V3.smul h q.n ∧ h * (q.b - q.n.dot f.s) = f.t.d * p.b
theorem Mov.planeT {f : Fr} {p q : Pl} (hf : f.ok = true) (hp : p.okB = true) (hq : q.okB = true) (h : Mov f p q) : planeT f p = (q, true) := by
  obtain ⟨h, hpos, hn, hb⟩ := h
  have hg : q.n.gcd = 1 := (okB_bd hq).2.1
  have e1 : (f.t.m.of p.n).prim = (q.n, h) := by rw [hn, prim_of hg hpos]
  unfold Go.Proofs.YtlbafapmhjfobaaGreatDoor.planeT
  rw [hf, hp]
  simp only [Bool.and_self, if_true, e1]
  have e2 : (h == 0) = false := by simp; omega
  have e3 : (f.t.d * p.b).tmod h = 0 := by rw [← hb, Int.mul_tmod_right]
  have e4 : (f.t.d * p.b).tdiv h = q.b - q.n.dot f.s := by rw [← hb, tdiv_mul hpos]
  rw [e2, e3, e4]
  have e5 : (⟨q.n, q.b - q.n.dot f.s + q.n.dot f.s⟩ : Pl) = q := by
    obtain ⟨n, b⟩ := q
    simp only [Int.sub_add_cancel]
  simp [e5, hq]
/-- the plane through moved points -/
theorem Thr.move {f : Fr} (h : Rt f.t) {a b c : V3} {p : Pl} (ha : (mvu f a).inB = true) (hb : (mvu f b).inB = true) (hc : (mvu f c).inB = true)
    (ht : Thr (V3.smul f.t.d a) (V3.smul f.t.d b) (V3.smul f.t.d c) p) : ∃ q, Mov f p q ∧ Thr (mvu f a) (mvu f b) (mvu f c) q := by
  obtain ⟨_, _, _, h4, ⟨g, hg, h5⟩, h6⟩ := ht
  have hd := h.d1
  rw [smul_sub, smul_sub, smul_cross] at h5
  -- the moved normal
  have hMn : (f.t.m.of p.n).gcd ≠ 0 := by
    intro h0
    have e := of_dot h p.n p.n
    rw [gcd_zero h0] at e
    have hp := dot_pos (n := p.n) (by omega)
    have : 0 < f.t.d * f.t.d * p.n.dot p.n := Int.mul_pos (Int.mul_pos (by omega) (by omega)) hp
    rw [← e] at this
    exact absurd this (by decide)
  obtain ⟨m1, m2, m3⟩ := prim_ex hMn
  obtain ⟨q, hq⟩ : ∃ q : V3, q = (f.t.m.of p.n).prim.1 := ⟨_, rfl⟩
  obtain ⟨k, hk⟩ : ∃ k : Int, k = (f.t.m.of p.n).prim.2 := ⟨_, rfl⟩
  rw [← hq, ← hk] at m1
  rw [← hq] at m2
  rw [← hk] at m3
  -- d N' = M N
  have e1 : V3.smul f.t.d ((f.t.m.of (b.sub a)).cross (f.t.m.of (c.sub a))) = V3.smul (g * k) q := by
    rw [of_cross h, smul_smul, ← of_smul, h5, of_smul, m1, smul_smul]
  have hN : ((f.t.m.of (b.sub a)).cross (f.t.m.of (c.sub a))).gcd ≠ 0 := by
    intro h0
    have := congrArg V3.gcd e1
    rw [gcd_smul, gcd_smul, h0, m2] at this
    have hgk : 0 < g * k := Int.mul_pos hg m3
    omega
  obtain ⟨n1, n2, n3⟩ := prim_ex hN
  rw [n1, smul_smul] at e1
  obtain ⟨e2, e3⟩ := smul_inj n2 m2 (Int.mul_pos (by omega) n3) (Int.mul_pos hg m3) e1
  refine ⟨⟨q, q.dot (mvu f a)⟩, ⟨k, m3, m1, ?_⟩, ha, hb, hc, m2, ⟨_, n3, ?_⟩, rfl⟩
  · have e4 : q.dot (mvu f a) - q.dot f.s = q.dot (f.t.m.of a) := by rw [mvu, dot_add]; omega
    simp only
    rw [e4, ← smul_dot, ← m1, of_dot h, h6, dot_smul]
    grind
  · rw [mvu_sub, mvu_sub, ← e2]
    exact n1
theorem ordI_eq {X Y Z W : Int} (h1 : X < Y ↔ Z < W) (h2 : Y < X ↔ W < Z) : ordI X Y = ordI Z W := by
  unfold ordI
  simp only [h1, h2]
theorem Mov.side {f : Fr} (h : Rt f.t) {p q : Pl} {u : V3} (hm : Mov f p q) (hp : p.okB = true) (hq : q.okB = true) (hu : (V3.smul f.t.d u).inB = true) (hw : (mvu f u).inB = true) :
    side q (mvu f u) = side p (V3.smul f.t.d u) := by
  obtain ⟨k, hk, hn, hb⟩ := hm
  have hd := h.d1
  unfold Go.Proofs.YtlbafapmhjfobaaGreatDoor.side
  rw [hp, hq, hu, hw]
  simp only [Bool.and_self, if_true]
  have e : k * (q.n.dot (mvu f u) - q.b) = f.t.d * (p.n.dot (V3.smul f.t.d u) - p.b) := by
    have e1 : q.n.dot (mvu f u) - q.b = q.n.dot (f.t.m.of u) - (q.b - q.n.dot f.s) := by rw [mvu, dot_add]; omega
    rw [e1, Int.mul_sub, hb, ← smul_dot, ← hn, of_dot h, dot_smul]
    grind
  refine ordI_eq ?_ ?_
  · constructor
    · intro hlt
      apply Classical.byContradiction
      intro hge
      have h1 : 0 ≤ f.t.d * (p.n.dot (V3.smul f.t.d u) - p.b) := Int.mul_nonneg (by omega) (by omega)
      have h2 : k * (q.n.dot (mvu f u) - q.b) < 0 := Int.mul_neg_of_pos_of_neg hk (by omega)
      omega
    · intro hlt
      apply Classical.byContradiction
      intro hge
      have h1 : 0 ≤ k * (q.n.dot (mvu f u) - q.b) := Int.mul_nonneg (by omega) (by omega)
      have h2 : f.t.d * (p.n.dot (V3.smul f.t.d u) - p.b) < 0 := Int.mul_neg_of_pos_of_neg (by omega) (by omega)
      omega
  · constructor
    · intro hlt
      apply Classical.byContradiction
      intro hge
      have h1 : f.t.d * (p.n.dot (V3.smul f.t.d u) - p.b) ≤ 0 := Int.mul_nonpos_of_nonneg_of_nonpos (by omega) (by omega)
      have h2 : 0 < k * (q.n.dot (mvu f u) - q.b) := Int.mul_pos hk (by omega)
      omega
    · intro hlt
      apply Classical.byContradiction
      intro hge
      have h1 : k * (q.n.dot (mvu f u) - q.b) ≤ 0 := Int.mul_nonpos_of_nonneg_of_nonpos (by omega) (by omega)
      have h2 : 0 < f.t.d * (p.n.dot (V3.smul f.t.d u) - p.b) := Int.mul_pos (by omega) (by omega)
      omega
def t3 (f : Fr) : Int := f.t.d * f.t.d * f.t.d
theorem Mov.det {f : Fr} (h : Rt f.t) {p1 p2 p3 q1 q2 q3 : Pl} (h1 : Mov f p1 q1) (h2 : Mov f p2 q2) (h3 : Mov f p3 q3) :
    (q1.n.cross q2.n).dot q3.n ≠ 0 ↔ (p1.n.cross p2.n).dot p3.n ≠ 0 := by
  obtain ⟨k1, hk1, hn1, _⟩ := h1
  obtain ⟨k2, hk2, hn2, _⟩ := h2
  obtain ⟨k3, hk3, hn3, _⟩ := h3
  have hd := h.d1
  have e : k1 * k2 * k3 * (q1.n.cross q2.n).dot q3.n = t3 f * (p1.n.cross p2.n).dot p3.n := by
    have e1 : ((V3.smul k1 q1.n).cross (V3.smul k2 q2.n)).dot (V3.smul k3 q3.n) = k1 * k2 * k3 * (q1.n.cross q2.n).dot q3.n := by
      simp only [V3.smul, V3.cross, V3.dot]; grind
    rw [← e1, ← hn1, ← hn2, ← hn3, of_cross h, smul_dot, of_dot h]
    simp only [t3]; grind
  have ek : k1 * k2 * k3 ≠ 0 := by
    have := Int.mul_pos (Int.mul_pos hk1 hk2) hk3
    omega
  have ed : t3 f ≠ 0 := by
    have : 0 < t3 f := Int.mul_pos (Int.mul_pos (by omega) (by omega)) (by omega)
    omega
  constructor
  · intro hq hp
    rw [hp, Int.mul_zero] at e
    exact (Int.mul_ne_zero ek hq) e
  · intro hp hq
    rw [hq, Int.mul_zero] at e
    exact (Int.mul_ne_zero ed hp) e.symm
theorem Mov.inj {f : Fr} (h : Rt f.t) {p p' q : Pl} (g1 : p.n.gcd = 1) (g2 : p'.n.gcd = 1) (h1 : Mov f p q) (h2 : Mov f p' q) : p = p' := by
  obtain ⟨k1, hk1, hn1, hb1⟩ := h1
  obtain ⟨k2, hk2, hn2, hb2⟩ := h2
  have hd := h.d1
  have e : f.t.m.of ((V3.smul k2 p.n).sub (V3.smul k1 p'.n)) = ⟨0, 0, 0⟩ := by
    rw [of_sub, of_smul, of_smul, hn1, hn2, smul_smul, smul_smul, Int.mul_comm k1 k2]
    refine V3.ext' ?_ ?_ ?_ <;> simp only [V3.sub] <;> omega
  have e2 : ((V3.smul k2 p.n).sub (V3.smul k1 p'.n)).gcd = 0 := by
    apply Classical.byContradiction
    intro hne
    have hp := dot_pos hne
    have e3 := of_dot h ((V3.smul k2 p.n).sub (V3.smul k1 p'.n)) ((V3.smul k2 p.n).sub (V3.smul k1 p'.n))
    rw [e] at e3
    have : 0 < f.t.d * f.t.d * ((V3.smul k2 p.n).sub (V3.smul k1 p'.n)).dot ((V3.smul k2 p.n).sub (V3.smul k1 p'.n)) := Int.mul_pos (Int.mul_pos (by omega) (by omega)) hp
    rw [← e3] at this
    exact absurd this (by decide)
  have e4 := gcd_zero e2
  have e5 : V3.smul k2 p.n = V3.smul k1 p'.n := by
    simp only [V3.sub, V3.smul, V3.mk.injEq] at e4
    refine V3.ext' ?_ ?_ ?_ <;> simp only [V3.smul] <;> omega
  obtain ⟨e6, e7⟩ := smul_inj g1 g2 hk2 hk1 e5
  rw [e7] at hb2
  have e8 : p.b = p'.b := Int.eq_of_mul_eq_mul_left (by omega) (hb1.symm.trans hb2)
  obtain ⟨n, b⟩ := p
  obtain ⟨n', b'⟩ := p'
  simp only at e6 e8
  rw [e6, e8]
end Go.Proofs.YtlbafapmhjfobaaGreatDoor
namespace Go.Proofs.YtlbafapmhjfobaaGreatDoor
theorem nodup_len {α : Type} [DecidableEq α] : ∀ {l r : List α}, l.Nodup → r.Nodup → (∀ x, x ∈ l ↔ x ∈ r) → l.length = r.length := by
  intro l
  induction l with
  | nil =>
    intro r _ _ h
    cases r with
    | nil => rfl
    | cons b r => exact absurd ((h b).2 List.mem_cons_self) (by simp)
  | cons a l ih =>
    intro r hl hr h
    have ha : a ∈ r := (h a).1 List.mem_cons_self
    rw [List.nodup_cons] at hl
    have e := ih hl.2 (hr.erase a) (fun x => by
      rw [hr.mem_erase_iff]
      have hx := h x
      simp only [List.mem_cons] at hx
      constructor
      · intro hxl
        exact ⟨fun e => by subst e; exact hl.1 hxl, hx.1 (.inr hxl)⟩
      · rintro ⟨hne, hxr⟩
        rcases hx.2 hxr with e | e
        · exact absurd e hne
        · exact e)
    have e2 := (List.perm_cons_erase ha).length_eq
    simp only [List.length_cons] at e2 ⊢
    omega
/-- some points (d times us), a frame -/
structure Pts (f : Fr) (us : List V3) : Prop where
  ok : f.ok = true
  rt : Rt f.t
  sb : f.s.bd 4
  ub : ∀ u ∈ us, (V3.smul f.t.d u).bd 11
def ptP (f : Fr) (us : List V3) : List V3 := us.map (V3.smul f.t.d)
def ptM (f : Fr) (us : List V3) : List V3 := us.map (mvu f)
def plT1 (f : Fr) (p : Pl) : Pl := (planeT f p).1
variable {f : Fr} {us : List V3}
theorem Pts.pin (h : Pts f us) {u : V3} (hu : u ∈ us) : (V3.smul f.t.d u).inB = true := bd_inB ((h.ub u hu).mono (by omega))
theorem Pts.min (h : Pts f us) {u : V3} (hu : u ∈ us) : (mvu f u).inB = true := mvu_inB h.rt h.sb (h.ub u hu)
theorem Pts.ap (h : Pts f us) {u : V3} (hu : u ∈ us) : apply f (V3.smul f.t.d u) = (mvu f u, true) := apply_ok h.ok h.rt h.sb (h.ub u hu)
theorem Pts.fwd (h : Pts f us) {a b c : V3} (ha : a ∈ us) (hb : b ∈ us) (hc : c ∈ us) {p : Pl} (ht : Thr (V3.smul f.t.d a) (V3.smul f.t.d b) (V3.smul f.t.d c) p) :
    planeT f p = (plT1 f p, true) ∧ Mov f p (plT1 f p) ∧ Thr (mvu f a) (mvu f b) (mvu f c) (plT1 f p) := by
  obtain ⟨q, hm, hq⟩ := ht.move h.rt (h.min ha) (h.min hb) (h.min hc)
  have e := hm.planeT h.ok ht.okB hq.okB
  have e2 : plT1 f p = q := by rw [plT1, e]
  rw [e2]
  exact ⟨e, hm, hq⟩
theorem Pts.bwd (h : Pts f us) {a b c : V3} (ha : a ∈ us) (hb : b ∈ us) (hc : c ∈ us) {q : Pl} (ht : Thr (mvu f a) (mvu f b) (mvu f c) q) :
    ∃ p, Thr (V3.smul f.t.d a) (V3.smul f.t.d b) (V3.smul f.t.d c) p ∧ q = plT1 f p := by
  have hN : (((V3.smul f.t.d b).sub (V3.smul f.t.d a)).cross ((V3.smul f.t.d c).sub (V3.smul f.t.d a))).gcd ≠ 0 := by
    intro h0
    obtain ⟨_, _, _, h4, ⟨g, hg, h5⟩, _⟩ := ht
    have hd := h.rt.d1
    rw [smul_sub, smul_sub, smul_cross, gcd_smul] at h0
    have hdd : 0 < f.t.d * f.t.d := Int.mul_pos (by omega) (by omega)
    have h1 : ((b.sub a).cross (c.sub a)).gcd = 0 := by
      rcases Nat.mul_eq_zero.1 h0 with e | e
      · omega
      · exact e
    rw [mvu_sub, mvu_sub, of_cross h.rt, gcd_zero h1] at h5
    have e := congrArg V3.gcd h5
    rw [gcd_smul, gcd_smul, h4, of_zero, gcd_zero'] at e
    omega
  obtain ⟨n1, n2, n3⟩ := prim_ex hN
  obtain ⟨N, hNe⟩ : ∃ N, N = ((V3.smul f.t.d b).sub (V3.smul f.t.d a)).cross ((V3.smul f.t.d c).sub (V3.smul f.t.d a)) := ⟨_, rfl⟩
  rw [← hNe] at n1 n2 n3
  have ht2 : Thr (V3.smul f.t.d a) (V3.smul f.t.d b) (V3.smul f.t.d c) ⟨N.prim.1, N.prim.1.dot (V3.smul f.t.d a)⟩ := ⟨h.pin ha, h.pin hb, h.pin hc, n2, ⟨_, n3, by rw [← hNe]; exact n1⟩, rfl⟩
  exact ⟨_, ht2, ht.unique (h.fwd ha hb hc ht2).2.2⟩
theorem Pts.facP (h : Pts f us) {p : Pl} : Fac (ptP f us) p ↔ ∃ a b c, a ∈ us ∧ b ∈ us ∧ c ∈ us ∧ Thr (V3.smul f.t.d a) (V3.smul f.t.d b) (V3.smul f.t.d c) p := by
  constructor
  · rintro ⟨a, b, c, ha, hb, hc, ht⟩
    obtain ⟨a', ha', rfl⟩ := List.mem_map.1 ha
    obtain ⟨b', hb', rfl⟩ := List.mem_map.1 hb
    obtain ⟨c', hc', rfl⟩ := List.mem_map.1 hc
    exact ⟨a', b', c', ha', hb', hc', ht⟩
  · rintro ⟨a, b, c, ha, hb, hc, ht⟩
    exact ⟨_, _, _, List.mem_map_of_mem ha, List.mem_map_of_mem hb, List.mem_map_of_mem hc, ht⟩
theorem Pts.facM (h : Pts f us) {q : Pl} : Fac (ptM f us) q ↔ ∃ p, Fac (ptP f us) p ∧ q = plT1 f p := by
  constructor
  · rintro ⟨a, b, c, ha, hb, hc, ht⟩
    obtain ⟨a', ha', rfl⟩ := List.mem_map.1 ha
    obtain ⟨b', hb', rfl⟩ := List.mem_map.1 hb
    obtain ⟨c', hc', rfl⟩ := List.mem_map.1 hc
    obtain ⟨p, hp, e⟩ := h.bwd ha' hb' hc' ht
    exact ⟨p, h.facP.2 ⟨_, _, _, ha', hb', hc', hp⟩, e⟩
  · rintro ⟨p, hp, rfl⟩
    obtain ⟨a, b, c, ha, hb, hc, ht⟩ := h.facP.1 hp
    exact ⟨_, _, _, List.mem_map_of_mem ha, List.mem_map_of_mem hb, List.mem_map_of_mem hc, (h.fwd ha hb hc ht).2.2⟩
/-- what is known of a facet -/
theorem Pts.fac (h : Pts f us) {p : Pl} (hp : Fac (ptP f us) p) : planeT f p = (plT1 f p, true) ∧ Mov f p (plT1 f p) ∧ p.okB = true ∧ (plT1 f p).okB = true ∧ p.n.gcd = 1 := by
  obtain ⟨a, b, c, ha, hb, hc, ht⟩ := h.facP.1 hp
  obtain ⟨h1, h2, h3⟩ := h.fwd ha hb hc ht
  exact ⟨h1, h2, ht.okB, h3.okB, ht.2.2.2.1⟩
theorem Pts.side (h : Pts f us) {p : Pl} (hp : Fac (ptP f us) p) {u : V3} (hu : u ∈ us) : Go.Proofs.YtlbafapmhjfobaaGreatDoor.side (plT1 f p) (mvu f u) = Go.Proofs.YtlbafapmhjfobaaGreatDoor.side p (V3.smul f.t.d u) := by
  obtain ⟨_, h2, h3, h4, _⟩ := h.fac hp
  exact h2.side h.rt h3 h4 (h.pin hu) (h.min hu)
theorem Pts.inj (h : Pts f us) {p p' : Pl} (hp : Fac (ptP f us) p) (hp' : Fac (ptP f us) p') (e : plT1 f p = plT1 f p') : p = p' := by
  obtain ⟨_, h2, _, _, h5⟩ := h.fac hp
  obtain ⟨_, h2', _, _, h5'⟩ := h.fac hp'
  rw [← e] at h2'
  exact h2.inj h.rt h5 h5' h2'
theorem Pts.any (h : Pts f us) {p : Pl} (hp : Fac (ptP f us) p) (g : Int → Bool) : (ptM f us).any (fun v => g (Go.Proofs.YtlbafapmhjfobaaGreatDoor.side (plT1 f p) v)) = (ptP f us).any (fun v => g (Go.Proofs.YtlbafapmhjfobaaGreatDoor.side p v)) := by
  rw [Bool.eq_iff_iff, List.any_eq_true, List.any_eq_true]
  constructor
  · rintro ⟨v, hv, e⟩
    obtain ⟨u, hu, rfl⟩ := List.mem_map.1 hv
    rw [h.side hp hu] at e
    exact ⟨_, List.mem_map_of_mem hu, e⟩
  · rintro ⟨v, hv, e⟩
    obtain ⟨u, hu, rfl⟩ := List.mem_map.1 hv
    rw [← h.side hp hu] at e
    exact ⟨_, List.mem_map_of_mem hu, e⟩
theorem fac_dist (xs : List V3) (p : Pl) : Fac (distL xs) p ↔ Fac xs p := by
  have hm := (distL_props xs).2
  constructor
  · rintro ⟨a, b, c, ha, hb, hc, ht⟩
    exact ⟨a, b, c, (hm a).1 ha, (hm b).1 hb, (hm c).1 hc, ht⟩
  · rintro ⟨a, b, c, ha, hb, hc, ht⟩
    exact ⟨a, b, c, (hm a).2 ha, (hm b).2 hb, (hm c).2 hc, ht⟩
theorem mem_facesL (xs : List V3) (p : Pl) : p ∈ facesL xs ↔ Fac xs p ∧ beyond xs p = false := by
  rw [(facesL_props xs).2 p, mem_trip, fac_dist]
theorem Pts.faces (h : Pts f us) (q : Pl) : q ∈ facesL (ptM f us) ↔ ∃ p, p ∈ facesL (ptP f us) ∧ q = plT1 f p := by
  rw [mem_facesL, h.facM]
  constructor
  · rintro ⟨⟨p, hp, rfl⟩, hb⟩
    refine ⟨p, (mem_facesL _ _).2 ⟨hp, ?_⟩, rfl⟩
    rw [← hb]
    exact (h.any hp (fun x => decide (0 < x))).symm
  · rintro ⟨p, hp, rfl⟩
    obtain ⟨hp1, hp2⟩ := (mem_facesL _ _).1 hp
    refine ⟨⟨p, hp1, rfl⟩, ?_⟩
    rw [← hp2]
    exact h.any hp1 (fun x => decide (0 < x))
theorem nodup_map {α β : Type} {g : α → β} : ∀ {l : List α}, l.Nodup → (∀ a ∈ l, ∀ b ∈ l, g a = g b → a = b) → (l.map g).Nodup := by
  intro l
  induction l with
  | nil => intro _ _; simp
  | cons a l ih =>
    intro h hi
    rw [List.nodup_cons] at h
    rw [List.map_cons, List.nodup_cons]
    refine ⟨fun hm => ?_, ih h.2 (fun x hx y hy => hi x (List.mem_cons_of_mem _ hx) y (List.mem_cons_of_mem _ hy))⟩
    obtain ⟨b, hb, e⟩ := List.mem_map.1 hm
    have := hi b (List.mem_cons_of_mem _ hb) a List.mem_cons_self e
    subst this
    exact h.1 hb
theorem Pts.faces_len (h : Pts f us) : (facesL (ptP f us)).length = (facesL (ptM f us)).length := by
  rw [← List.length_map (f := plT1 f)]
  refine nodup_len (nodup_map (facesL_props _).1 fun a ha b hb e => h.inj ((mem_facesL _ _).1 ha).1 ((mem_facesL _ _).1 hb).1 e) (facesL_props _).1 fun q => ?_
  rw [h.faces q, List.mem_map]
  constructor
  · rintro ⟨p, hp, e⟩; exact ⟨p, hp, e.symm⟩
  · rintro ⟨p, hp, e⟩; exact ⟨p, hp, e.symm⟩
theorem Pts.tri (h : Pts f us) (i j k : Nat) : Go.Proofs.YtlbafapmhjfobaaGreatDoor.tri (ptM f us) i j k = (Go.Proofs.YtlbafapmhjfobaaGreatDoor.tri (ptP f us) i j k).map (plT1 f) := by
  unfold Go.Proofs.YtlbafapmhjfobaaGreatDoor.tri ptM ptP
  simp only [List.getElem?_map]
  cases hk : us[k]? with
  | none => simp
  | some a =>
    cases hj : us[j]? with
    | none => simp
    | some b =>
      cases hi : us[i]? with
      | none => simp
      | some c =>
        simp only [Option.map_some]
        have ha : a ∈ us := List.mem_of_getElem? hk
        have hb : b ∈ us := List.mem_of_getElem? hj
        have hc : c ∈ us := List.mem_of_getElem? hi
        cases ht : (through (V3.smul f.t.d a) (V3.smul f.t.d b) (V3.smul f.t.d c)).2
        · have hm : (through (mvu f a) (mvu f b) (mvu f c)).2 = false := by
            cases hm : (through (mvu f a) (mvu f b) (mvu f c)).2
            · rfl
            · exfalso
              obtain ⟨p, hp, _⟩ := h.bwd ha hb hc ((thr_iff _ _ _ _).1 (show through (mvu f a) (mvu f b) (mvu f c) = ((through (mvu f a) (mvu f b) (mvu f c)).1, true) by rw [← hm]))
              rw [(thr_iff _ _ _ _).2 hp] at ht
              cases ht
          rw [hm]
          simp
        · have hth : Thr (V3.smul f.t.d a) (V3.smul f.t.d b) (V3.smul f.t.d c) (through (V3.smul f.t.d a) (V3.smul f.t.d b) (V3.smul f.t.d c)).1 := (thr_iff _ _ _ _).1 (by rw [← ht])
          have h1 := (h.fwd ha hb hc hth).2.2
          have h2 := (h.fwd ha hc hb hth.swap).2.2
          have e2 := h2.unique h1.swap
          rw [(thr_iff _ _ _ _).2 h1]
          simp [e2]
theorem Pts.trip (h : Pts f us) : Go.Proofs.YtlbafapmhjfobaaGreatDoor.trip (ptM f us) = (Go.Proofs.YtlbafapmhjfobaaGreatDoor.trip (ptP f us)).map (plT1 f) := by
  have e : (ptM f us).length = (ptP f us).length := by simp [ptM, ptP]
  simp only [Go.Proofs.YtlbafapmhjfobaaGreatDoor.trip, trip1, trip2, trip3, List.map_flatMap, h.tri, e]
theorem Pts.flat (h : Pts f us) : flatB (ptM f us) = flatB (ptP f us) := by
  unfold flatB
  rw [h.trip]
  cases ht : Go.Proofs.YtlbafapmhjfobaaGreatDoor.trip (ptP f us) with
  | nil => rfl
  | cons p l =>
    simp only [List.map_cons]
    have hp : Fac (ptP f us) p := mem_trip.1 (by rw [ht]; exact List.mem_cons_self)
    rw [h.any hp (fun x => x != 0)]
theorem Pts.chk (h : Pts f us) : chkV (ptM f us) = chkV (ptP f us) := by
  have e : (ptM f us).length = (ptP f us).length := by simp [ptM, ptP]
  have e1 : (ptM f us).any (fun v => !v.inB) = false := by
    rw [List.any_eq_false]
    intro v hv
    obtain ⟨u, hu, rfl⟩ := List.mem_map.1 hv
    rw [h.min hu]; simp
  have e2 : (ptP f us).any (fun v => !v.inB) = false := by
    rw [List.any_eq_false]
    intro v hv
    obtain ⟨u, hu, rfl⟩ := List.mem_map.1 hv
    rw [h.pin hu]; simp
  unfold chkV
  rw [e, e1, e2, h.flat]
theorem Pts.inner (h : Pts f us) {u : V3} (hu : u ∈ us) : Go.Proofs.YtlbafapmhjfobaaGreatDoor.inner (facesL (ptM f us)) (mvu f u) = Go.Proofs.YtlbafapmhjfobaaGreatDoor.inner (facesL (ptP f us)) (V3.smul f.t.d u) := by
  unfold Go.Proofs.YtlbafapmhjfobaaGreatDoor.inner
  congr 1
  rw [Bool.eq_iff_iff, vertexB_iff, vertexB_iff]
  simp only [List.mem_filter, beq_iff_eq]
  constructor
  · rintro ⟨q1, q2, q3, ⟨m1, s1⟩, ⟨m2, s2⟩, ⟨m3, s3⟩, hd⟩
    obtain ⟨p1, n1, rfl⟩ := (h.faces q1).1 m1
    obtain ⟨p2, n2, rfl⟩ := (h.faces q2).1 m2
    obtain ⟨p3, n3, rfl⟩ := (h.faces q3).1 m3
    have f1 := ((mem_facesL _ _).1 n1).1
    have f2 := ((mem_facesL _ _).1 n2).1
    have f3 := ((mem_facesL _ _).1 n3).1
    rw [h.side f1 hu] at s1
    rw [h.side f2 hu] at s2
    rw [h.side f3 hu] at s3
    exact ⟨p1, p2, p3, ⟨n1, s1⟩, ⟨n2, s2⟩, ⟨n3, s3⟩, (Mov.det h.rt (h.fac f1).2.1 (h.fac f2).2.1 (h.fac f3).2.1).1 hd⟩
  · rintro ⟨p1, p2, p3, ⟨n1, s1⟩, ⟨n2, s2⟩, ⟨n3, s3⟩, hd⟩
    have f1 := ((mem_facesL _ _).1 n1).1
    have f2 := ((mem_facesL _ _).1 n2).1
    have f3 := ((mem_facesL _ _).1 n3).1
    rw [← h.side f1 hu] at s1
    rw [← h.side f2 hu] at s2
    rw [← h.side f3 hu] at s3
    exact ⟨_, _, _, ⟨(h.faces _).2 ⟨p1, n1, rfl⟩, s1⟩, ⟨(h.faces _).2 ⟨p2, n2, rfl⟩, s2⟩, ⟨(h.faces _).2 ⟨p3, n3, rfl⟩, s3⟩, (Mov.det h.rt (h.fac f1).2.1 (h.fac f2).2.1 (h.fac f3).2.1).2 hd⟩
theorem mvu_inj (h : Pts f us) {u w : V3} (e : mvu f u = mvu f w) : u = w := by
  have hd := h.rt.d1
  have e1 : f.t.m.of (u.sub w) = ⟨0, 0, 0⟩ := by
    rw [← mvu_sub, e]
    refine V3.ext' ?_ ?_ ?_ <;> simp only [V3.sub] <;> omega
  have e2 : (u.sub w).gcd = 0 := by
    apply Classical.byContradiction
    intro hne
    have hp := dot_pos hne
    have e3 := of_dot h.rt (u.sub w) (u.sub w)
    rw [e1] at e3
    have : 0 < f.t.d * f.t.d * (u.sub w).dot (u.sub w) := Int.mul_pos (Int.mul_pos (by omega) (by omega)) hp
    rw [← e3] at this
    exact absurd this (by decide)
  have e4 := gcd_zero e2
  simp only [V3.sub, V3.mk.injEq] at e4
  exact V3.ext' (by omega) (by omega) (by omega)
def mvp (f : Fr) (v : V3) : V3 := (apply f v).1
theorem mem_extL (xs : List V3) (v : V3) : v ∈ extL xs ↔ v ∈ xs ∧ Go.Proofs.YtlbafapmhjfobaaGreatDoor.inner (facesL xs) v = false := by
  rw [extL, List.mem_filter, (distL_props xs).2 v]
  simp
theorem Pts.ext (h : Pts f us) (w : V3) : w ∈ extL (ptM f us) ↔ w ∈ (extL (ptP f us)).map (mvp f) := by
  rw [mem_extL, List.mem_map]
  constructor
  · rintro ⟨hw, hi⟩
    obtain ⟨u, hu, rfl⟩ := List.mem_map.1 hw
    refine ⟨V3.smul f.t.d u, (mem_extL _ _).2 ⟨List.mem_map_of_mem hu, ?_⟩, by rw [mvp, h.ap hu]⟩
    rw [← h.inner hu, hi]
  · rintro ⟨v, hv, rfl⟩
    obtain ⟨hv1, hv2⟩ := (mem_extL _ _).1 hv
    obtain ⟨u, hu, rfl⟩ := List.mem_map.1 hv1
    rw [mvp, h.ap hu]
    exact ⟨List.mem_map_of_mem hu, by rw [h.inner hu, hv2]⟩
theorem extL_asc (xs : List V3) : (extL xs).Pairwise vlt := (distL_props xs).1.filter _
theorem Pts.ext_len (h : Pts f us) : (extL (ptP f us)).length = (extL (ptM f us)).length := by
  rw [← List.length_map (f := mvp f)]
  refine nodup_len (nodup_map (asc_nodup (extL_asc _)) fun a ha b hb e => ?_) (asc_nodup (extL_asc _)) fun q => (h.ext q).symm
  obtain ⟨u, hu, rfl⟩ := List.mem_map.1 ((mem_extL _ _).1 ha).1
  obtain ⟨w, hw, rfl⟩ := List.mem_map.1 ((mem_extL _ _).1 hb).1
  rw [mvp, mvp, h.ap hu, h.ap hw] at e
  rw [mvu_inj h e]
theorem Pts.put (h : Pts f us) : putAll ((extL (ptP f us)).map (mvp f)) = extL (ptM f us) := by
  obtain ⟨h1, h2, _⟩ := putAll_props ((extL (ptP f us)).map (mvp f))
  exact asc_unique h1 (extL_asc _) fun v => (h2 v).trans (h.ext v).symm
theorem Pts.dots (h : Pts f us) (a b : V3) : ((V3.smul f.t.d a).sub (V3.smul f.t.d b)).dot ((V3.smul f.t.d a).sub (V3.smul f.t.d b)) = ((mvu f a).sub (mvu f b)).dot ((mvu f a).sub (mvu f b)) := by
  rw [smul_sub, smul_dot, dot_smul, mvu_sub, of_dot h.rt]
  grind
theorem tri_len (xs : List V3) (i j k : Nat) : (tri xs i j k).length ≤ 2 := by
  unfold tri
  split
  · split <;> simp
  · simp
theorem flatMap_len {α β : Type} (g : α → List β) (c : Nat) : ∀ (l : List α), (∀ x ∈ l, (g x).length ≤ c) → (l.flatMap g).length ≤ l.length * c := by
  intro l
  induction l with
  | nil => simp
  | cons a l ih =>
    intro h
    have h1 := h a List.mem_cons_self
    have h2 := ih fun x hx => h x (List.mem_cons_of_mem _ hx)
    simp only [List.flatMap_cons, List.length_append, List.length_cons, Nat.succ_mul]
    omega
theorem trip_len {xs : List V3} (h : xs.length ≤ 48) : (trip xs).length ≤ 1000000 := by
  have h1 : ∀ i j, i ≤ 48 → j ≤ 48 → (trip3 xs i j j).length ≤ 96 := by
    intro i j hi hj
    have := flatMap_len (fun k => tri xs i j k) 2 (List.range j) (fun k _ => tri_len xs i j k)
    simp only [List.length_range] at this
    unfold trip3
    omega
  have h2 : ∀ i, i ≤ 48 → (trip2 xs i i).length ≤ 4608 := by
    intro i hi
    have := flatMap_len (fun j => trip3 xs i j j) 96 (List.range i) (fun j hj => h1 i j hi (by have := List.mem_range.1 hj; omega))
    simp only [List.length_range] at this
    unfold trip2
    omega
  have := flatMap_len (fun i => trip2 xs i i) 4608 (List.range xs.length) (fun i hi => h2 i (by have := List.mem_range.1 hi; omega))
  simp only [List.length_range] at this
  unfold trip trip1
  omega
theorem distL_len (xs : List V3) : (distL xs).length ≤ xs.length := by
  have := cpV_len (sortBy cmpV xs) (sortBy cmpV xs).length
  rw [sortV_len] at this
  exact (by rw [distL, sortV_len]; exact this)
theorem facesL_bd (xs : List V3) : ∀ p ∈ facesL xs, p.n.bd 4608 := by
  intro p hp
  obtain ⟨⟨a, b, c, _, _, _, ht⟩, _⟩ := (mem_facesL xs p).1 hp
  exact (okB_bd ht.okB).1
end Go.Proofs.YtlbafapmhjfobaaGreatDoor
namespace Go.Proofs.YtlbafapmhjfobaaGreatDoor
theorem points_len (l : List Int) : (points l).length = ptN l := by
  have := (ptRun_len l (ptN l)).1
  unfold points fixP
  split <;> simp [this]
theorem points_bd (l : List Int) : ∀ v ∈ points l, v.bd 11 := by
  have hb := ptRun_bd l (ptN l)
  have hl := (ptRun_len l (ptN l)).1
  have hn := (ptN_bd l).1
  have h0 : (vget (ptRun l (ptN l)).2 0).bd 8 := vget_bd hb (by omega)
  unfold V3.bd at h0
  intro v hv
  unfold points fixP at hv
  split at hv
  · rcases List.mem_or_eq_of_mem_set hv with hv | hv
    · rcases List.mem_or_eq_of_mem_set hv with hv | hv
      · rcases List.mem_or_eq_of_mem_set hv with hv | hv
        · exact (hb v hv).mono (by omega)
        · subst hv; unfold V3.bd; simp only; omega
      · subst hv; unfold V3.bd; simp only; omega
    · subst hv; unfold V3.bd; simp only; omega
  · exact (hb v hv).mono (by omega)
theorem tdiv_mul_bd {x d k : Int} (h : -k ≤ x ∧ x ≤ k) : -k ≤ d * x.tdiv d ∧ d * x.tdiv d ≤ k := by
  have h1 : (d * x.tdiv d).natAbs ≤ x.natAbs := by
    rw [Int.natAbs_mul, Int.natAbs_tdiv]
    exact Nat.mul_div_le _ _
  omega
/-- made multiples of d -/
def snap (d : Int) (v : V3) : V3 := V3.smul d (v.div d)
theorem snap_bd {v : V3} {d k : Int} (h : v.bd k) : (snap d v).bd k := ⟨tdiv_mul_bd h.1, tdiv_mul_bd h.2.1, tdiv_mul_bd h.2.2⟩
theorem frameV_facts (l : List Int) : (frameV l).ok = true ∧ Rt (frameV l).t ∧ (frameV l).s.bd 4 ∧ (frameV l).t.d ≤ 25 := by
  have v2 := nextV_bd (xs := l) (a := nextAt l 0) (m := 24) (by omega)
  obtain ⟨k, hk⟩ : ∃ k : Nat, nextV l (nextAt l 0) 24 = (k : Int) := ⟨(nextV l (nextAt l 0) 24).toNat, by omega⟩
  have hk24 : k < 24 := by omega
  have hs := slantT_mem (nextV l 0 8)
  have hh := raft_ok _ hs ⟨k, hk24⟩
  have hr := all_rt _ hs ⟨k, hk24⟩
  have hfr : frameV l = ⟨raft (slantT (nextV l 0 8)) (tget k), vecV l (nextAt l (nextAt l 0)) 4⟩ := by rw [frameV, hk]; rfl
  have hsb : (frameV l).s.bd 4 := by
    rw [hfr]
    have w1 := nextV_bd (xs := l) (a := nextAt l (nextAt l 0)) (m := 2 * 4 + 1) (by omega)
    have w2 := nextV_bd (xs := l) (a := nextAt l (nextAt l (nextAt l 0))) (m := 2 * 4 + 1) (by omega)
    have w3 := nextV_bd (xs := l) (a := nextAt l (nextAt l (nextAt l (nextAt l 0)))) (m := 2 * 4 + 1) (by omega)
    simp only [V3.bd, vecV]
    omega
  have htok : (raft (slantT (nextV l 0 8)) (tget k)).ok = true := by
    simp only [frT, Fr.ok, Bool.and_eq_true] at hh
    exact hh.2
  refine ⟨?_, by rw [hfr]; exact rtB_spec hr, hsb, by rw [hfr]; exact (Tn.ok_spec htok).2.1⟩
  have hshort : (frameV l).s.short = true := by
    have h4 := hsb
    unfold V3.bd at h4
    simp [V3.short, withinI]
    omega
  rw [Fr.ok, hshort, hfr, htok]
  rfl
def usV (l p : List Int) : List V3 := (points p).map fun v => v.div (frameV l).t.d
theorem pts_law (l p : List Int) : Pts (frameV l) (usV l p) := by
  obtain ⟨h1, h2, h3, _⟩ := frameV_facts l
  refine ⟨h1, h2, h3, fun u hu => ?_⟩
  obtain ⟨v, hv, rfl⟩ := List.mem_map.1 hu
  exact snap_bd (points_bd p v hv)
/-- the points of the law, and where they go -/
def lawP (l p : List Int) : List V3 := (points p).map (snap (frameV l).t.d)
def lawM (l p : List Int) : List V3 := (lawP l p).map (mvp (frameV l))
theorem lawP_eq (l p : List Int) : lawP l p = ptP (frameV l) (usV l p) := by
  simp only [lawP, ptP, usV, List.map_map]
  rfl
theorem lawM_eq (l p : List Int) : lawM l p = ptM (frameV l) (usV l p) := by
  rw [lawM, lawP_eq]
  simp only [ptP, ptM, List.map_map]
  refine List.map_congr_left fun u hu => ?_
  simp only [Function.comp, mvp]
  rw [(pts_law l p).ap hu]
end Go.Proofs.YtlbafapmhjfobaaGreatDoor
