/-
  The framework (3 of 4): regions in text order and in any order; code.
-/
import Derived.Test.YtlbafapmhjfobaaGreatDoorAbs2
import Derived.RangeFuncSeq
set_option linter.unusedVariables false
set_option linter.unusedSimpArgs false
namespace Go.Proofs.YtlbafapmhjfobaaGreatDoor
variable {P : Program} {E : Env} {F : Fence} {n : Nat} {A : Nat → Prop} {sl : Nat → SV} {hp : Nat → Option HE} {ρ : Nat → Cn} {imm : Nat → Prop} {a : Act} {w : World} {j : Nat}
  {K : SV → List (Nat × Option HE) → Prop} {Q : Exit → Act → World → Prop} {o : Oper} {gl : Nat → Option (List AV)}

/-- an operation, its guard and all -/
def stepS (P : Program) (gl : Nat → Option (List AV)) (sl : Nat → SV) (hp : Nat → Option HE) (j : Nat) (o : AOper) (K : SV → List (Nat × Option HE) → Prop) : Prop :=
  match o.gd with
  | none => opSem P gl (ev gl sl) hp j o.op K
  | some (g, want) => match sl g with
    | .c false [.v (.bool b)] => (b = want → opSem P gl (ev gl sl) hp j o.op K) ∧ (b = (!want) → K (.tup []) [])
    | .tup [] => K (.tup []) []
    | _ => False

def wpOne (F : Fence) (n : Nat) (P : Program) (ops : Array Oper) (Q : Exit → Act → World → Prop) (o : Oper) (K : Act → World → Prop) (a : Act) (w : World) : Prop :=
  if Region.wanted o (yielded ops a.tmps) then o.wpIn F n P a w K Q else (∀ f, o.about P w a.eval = some f → F.fn f) ∧ K (a.put o.dst undef) w

theorem wpOne_mono {ops : Array Oper} {K K' : Act → World → Prop} (h : ∀ a w, K a w → K' a w) (hh : wpOne F n P ops Q o K a w) : wpOne F n P ops Q o K' a w := by
  unfold wpOne at *
  split
  · rename_i hw; simp only [hw, if_true] at hh; exact Oper.wpIn_mono h hh
  · rename_i hw; simp only [hw] at hh; exact ⟨hh.1, h _ _ hh.2⟩

theorem oper_sound {ops : Array Oper} {nt : Nat} {ao : AOper} (hc : compOper P nt ops o = some ao) (hnt : nt = E.nt) (hF : WideF F) (h : Real E A sl hp ρ imm a w) (hj : ¬ A j)
    (hs : stepS P E.gl sl hp j ao K) : wpOne F n P ops Q o (Post E A sl hp ao.dst j K) a w := by
  unfold compOper at hc
  obtain ⟨aop, hop, hc⟩ := Option.bind_eq_some_iff.1 hc
  split at hc
  rotate_left
  · cases hc
  rename_i hdst
  have hd : dstOk E o.dst := by
    intro i hi
    rw [hi] at hdst
    rw [← hnt]; simpa [dstB] using hdst
  have skip : K (.tup []) [] → ao.dst = o.dst → (∀ f, o.about P w a.eval = some f → F.fn f) ∧ Post E A sl hp ao.dst j K (a.put o.dst undef) w := by
    intro hk he
    refine ⟨fun f _ => hF.fn f, ⟨_, _, ρ, imm, hk, ?_⟩⟩
    rw [he]
    exact (h.put hd (show RS w imm ρ (.tup []) undef from ⟨[], rfl, trivial⟩) (by simp [SV.cells])).weakA (fun _ hx => .inl hx)
  cases hg : o.guard with
  | none =>
    rw [hg] at hc
    simp only [Option.some.injEq] at hc
    subst hc
    unfold wpOne
    simp only [Region.wanted, hg, if_true]
    exact op_sound hop hF h hj hd (by simpa only [stepS] using hs)
  | some gw =>
    obtain ⟨g, want⟩ := gw
    rw [hg] at hc
    simp only at hc
    split at hc
    · rename_i d hd'
      simp only [Option.some.injEq] at hc
      subst hc
      have hy : yielded ops a.tmps g = match a.tmps[d]? with | some (.bool b) => some b | _ => none := by
        unfold yielded
        rw [hd']
        rfl
      have hsl := h.slots d
      unfold wpOne
      simp only [Region.wanted, hg, hy]
      simp only [stepS] at hs
      split at hs
      · rename_i b he
        rw [he] at hsl
        have hv : a.tmps.getD d undef = .bool b := RS_v hsl
        have hv' : a.tmps[d]? = some (.bool b) := by
          rw [Array.getD_eq_getD_getElem?] at hv
          cases ht : a.tmps[d]? with
          | none => rw [ht] at hv; cases hv
          | some u => rw [ht] at hv; simp at hv; rw [hv]
        rw [hv']
        simp only
        by_cases hb : b = want
        · rw [if_pos (by simp [hb])]
          exact op_sound hop hF h hj hd (hs.1 hb)
        · rw [if_neg (by simpa using hb)]
          exact skip (hs.2 (by cases b <;> cases want <;> simp_all)) rfl
      · rename_i he
        rw [he] at hsl
        have hv : a.tmps.getD d undef = .tuple #[] := by
          obtain ⟨us, h1, h2⟩ := hsl
          cases us with
          | nil => exact h1
          | cons => exact h2.elim
        have hno : (match a.tmps[d]? with | some (.bool b) => some b | _ => none) = none := by
          rw [Array.getD_eq_getD_getElem?] at hv
          cases ht : a.tmps[d]? with
          | none => rfl
          | some u => rw [ht] at hv; simp at hv; rw [hv]
        rw [hno]
        rw [if_neg (by simp)]
        exact skip hs rfl
      · exact hs.elim
    · cases hc

/-! ### in the order of the text -/
/-- what is handed on is looked at first (for whoever reduces such terms) -/
def forceN (n : Nat) (K : Nat → Prop) : Prop :=
  match n with
  | 0 => K 0
  | m + 1 => K (m + 1)
def forceNs : List Nat → (List Nat → Prop) → Prop
  | [], K => K []
  | x :: r, K => forceN x fun x => forceNs r fun r => K (x :: r)
def forceA (x : AV) (K : AV → Prop) : Prop :=
  match x with
  | .any => K .any
  | .v u => K (.v u)
  | .li k xs => K (.li k xs)
  | .ref cs => K (.ref cs)
  | .fn f a b => K (.fn f a b)
  | .own b n => forceN b fun b => K (.own b n)
  | .ptr b o => forceN b fun b => forceN o fun o => K (.ptr b o)
  | .ept b n i o => forceN b fun b => forceN o fun o => K (.ept b n i o)
  | .part b n lo hi => forceN b fun b => K (.part b n lo hi)
  | .mp b => forceN b fun b => K (.mp b)
def forceC : List AV → (List AV → Prop) → Prop
  | [], K => K []
  | x :: r, K => forceA x fun x => forceC r fun r => K (x :: r)
def forceS (s : SV) (K : SV → Prop) : Prop :=
  match s with
  | .top => K .top
  | .c ag cs => forceC cs fun cs => K (.c ag cs)
  | .tup xs => K (.tup xs)
def forceH (h : Option HE) (K : Option HE → Prop) : Prop :=
  match h with
  | some (.box cs) => forceC cs fun cs => K (some (.box cs))
  | some (.row k xs) => K (some (.row k xs))
  | some (.keys ds ks) => K (some (.keys ds ks))
  | none => K none
def forceU : List (Nat × Option HE) → (List (Nat × Option HE) → Prop) → Prop
  | [], K => K []
  | (b, h) :: r, K => forceN b fun b => forceH h fun h => forceU r fun r => K ((b, h) :: r)
theorem forceN_eq (n : Nat) (K : Nat → Prop) : forceN n K = K n := by cases n <;> rfl
theorem forceNs_eq : ∀ (l : List Nat) (K : List Nat → Prop), forceNs l K = K l
  | [], _ => rfl
  | x :: r, K => by simp only [forceNs, forceN_eq, forceNs_eq r]
theorem forceA_eq (x : AV) (K : AV → Prop) : forceA x K = K x := by cases x <;> simp only [forceA, forceN_eq]
theorem forceC_eq : ∀ (cs : List AV) (K : List AV → Prop), forceC cs K = K cs
  | [], _ => rfl
  | x :: r, K => by simp only [forceC, forceA_eq, forceC_eq r]
theorem forceS_eq (s : SV) (K : SV → Prop) : forceS s K = K s := by cases s <;> simp only [forceS, forceC_eq]
theorem forceH_eq (h : Option HE) (K : Option HE → Prop) : forceH h K = K h := by
  cases h with
  | none => rfl
  | some h => cases h <;> simp only [forceH, forceC_eq]
theorem forceU_eq : ∀ (u : List (Nat × Option HE)) (K : List (Nat × Option HE) → Prop), forceU u K = K u
  | [], _ => rfl
  | (b, h) :: r, K => by simp only [forceU, forceN_eq, forceH_eq, forceU_eq r]
def evT (P : Program) (gl : Nat → Option (List AV)) : List AOper → (Nat → SV) → (Nat → Option HE) → Nat → (St → Prop) → Prop
  | [], sl, hp, nx, Q => Q ⟨sl, hp, nx⟩
  | o :: r, sl, hp, nx, Q => forceN nx fun j => stepS P gl sl hp j o fun out u => forceS out fun out => forceU u fun u => evT P gl r (putS sl o.dst out) (putH hp u) (j + 1) Q

/-- behind a state -/
def At (E : Env) (Q : St → Prop) (a : Act) (w : World) : Prop := ∃ st ρ imm, Q st ∧ Real E (fun b => b < st.nx) st.sl st.hp ρ imm a w

theorem evT_sound {ops : Array Oper} {nt : Nat} (hnt : nt = E.nt) (hF : WideF F) {R : St → Prop} (hQ : ∀ a w, At E R a w → Q .normal a w) : ∀ (l : List Oper) (k : Nat) (as : List AOper) (st : St) (a : Act) (w : World) (ρ : Nat → Cn) (imm : Nat → Prop),
    ops.toList.drop k = l → l.mapM (compOper P nt ops) = some as → Real E (fun b => b < st.nx) st.sl st.hp ρ imm a w → evT P E.gl as st.sl st.hp st.nx R → wpOpsIn F n P ops Q (List.range' k l.length) a w
  | [], k, as, st, a, w, ρ, imm, hl, hc, h, hs => by
    simp only [List.mapM_nil] at hc
    cases hc
    exact hQ _ _ ⟨st, ρ, imm, hs, h⟩
  | o :: l, k, as, st, a, w, ρ, imm, hl, hc, h, hs => by
    rw [List.mapM_cons] at hc
    obtain ⟨ao, hao, hc⟩ := Option.bind_eq_some_iff.1 hc
    obtain ⟨as', has, hc⟩ := Option.bind_eq_some_iff.1 hc
    cases hc
    have hk : ops[k]? = some o := by
      rw [← Array.getElem?_toList, ← List.head?_drop, hl]; rfl
    simp only [List.length_cons, List.range'_succ, wpOpsIn, hk]
    rw [evT, forceN_eq] at hs
    have hs' := oper_sound (n := n) (Q := Q) (j := st.nx) hao hnt hF h (by simp) hs
    refine wpOne_mono (Q := Q) (fun a' w' hpost => ?_) hs'
    obtain ⟨out, u, ρ', imm', hk', hr⟩ := hpost
    rw [forceS_eq, forceU_eq] at hk'
    refine evT_sound hnt hF hQ l (k + 1) as' ⟨putS st.sl ao.dst out, putH st.hp u, st.nx + 1⟩ a' w' ρ' imm' ?_ has (hr.weakA (fun x hx => ?_)) hk'
    · have := congrArg List.tail hl
      simpa [List.tail_drop] using this
    · rcases hx with hx | hx
      · exact Nat.lt_succ_of_lt hx
      · rw [hx]; exact Nat.lt_succ_self _
end Go.Proofs.YtlbafapmhjfobaaGreatDoor
namespace Go.Proofs.YtlbafapmhjfobaaGreatDoor

def Opd.tmp? : Opd → Option Nat
  | .t i => some i
  | _ => none
/-- the slots that an operation reads -/
def AOper.rd (o : AOper) : List Nat := o.op.opds.filterMap Opd.tmp? ++ (match o.gd with | some (g, _) => [g] | none => [])
/-- one operation as it went -/
structure It where
  o : AOper
  id : Nat
  out : SV
  u : List (Nat × Option HE)
  ft : List Nat

section
variable {P : Program} {gl : Nat → Option (List AV)} {sl sl' : Nat → SV} {hp hp' : Nat → Option HE}

theorem stepS_pt {j : Nat} {o : AOper} {K : SV → List (Nat × Option HE) → Prop} (h : stepS P gl sl hp j o K) :
    ∃ out u, K out u ∧ ∀ K' : SV → List (Nat × Option HE) → Prop, K' out u → stepS P gl sl hp j o K' := by
  unfold stepS at *
  split at h
  · exact opSem_pt h
  · rename_i g want hg
    split at h
    · rename_i b hb
      by_cases hw : b = want
      · obtain ⟨out, u, h1, h2⟩ := opSem_pt (h.1 hw)
        exact ⟨out, u, h1, fun K' hk => ⟨fun _ => h2 K' hk, fun h' => by subst hw; cases b <;> cases h'⟩⟩
      · have hb' : b = !want := by cases b <;> cases want <;> simp_all
        exact ⟨_, _, h.2 hb', fun K' hk => ⟨fun h' => absurd h' hw, fun _ => hk⟩⟩
    · exact ⟨_, _, h, fun K' hk => hk⟩
    · exact h.elim

theorem ev_loc {x : Opd} (h : ∀ i, x.tmp? = some i → sl' i = sl i) : ev gl sl' x = ev gl sl x := by
  cases x <;> simp only [ev] 
  exact h _ rfl

theorem fp_loc {o : AOp} {evv evv' : Opd → SV} (he : ∀ x ∈ o.opds, evv' x = evv x) : o.fp evv' = o.fp evv := by
  have hm : ∀ xs : List Opd, (∀ x ∈ xs, evv' x = evv x) → xs.flatMap (fun x => idsOf (evv' x)) = xs.flatMap (fun x => idsOf (evv x)) := by
    intro xs
    induction xs with
    | nil => intro _; rfl
    | cons x xs ih => intro h; simp only [List.flatMap_cons, h x (by simp), ih (fun y hy => h y (by simp [hy]))]
  cases o <;> simp only [AOp.fp] <;> simp only [AOp.opds, List.mem_cons, List.not_mem_nil, or_false, forall_eq_or_imp, forall_eq] at he
  all_goals first
    | done
    | (simp only [he]; done)
    | exact hm _ he
    | (obtain ⟨h1, h2⟩ := he; simp only [h1]; rw [hm _ h2])

theorem stepS_loc {j : Nat} {o : AOper} {K : SV → List (Nat × Option HE) → Prop} (hs : ∀ i ∈ o.rd, sl' i = sl i) (hh : ∀ b ∈ o.op.fp (ev gl sl), hp' b = hp b) (h : stepS P gl sl hp j o K) :
    stepS P gl sl' hp' j o K := by
  have he : ∀ x ∈ o.op.opds, ev gl sl' x = ev gl sl x := fun x hx => ev_loc fun i hi => hs i (List.mem_append_left _ (List.mem_filterMap.2 ⟨x, hx, hi⟩))
  have key : opSem P gl (ev gl sl) hp j o.op K → opSem P gl (ev gl sl') hp' j o.op K := opSem_loc he hh
  unfold stepS at *
  split at h
  · exact key h
  · rename_i g want hg
    have hg' : sl' g = sl g := hs g (by unfold AOper.rd; rw [hg]; simp)
    rw [hg']
    split at h
    · exact ⟨fun hb => key (h.1 hb), h.2⟩
    · exact h
    · exact h.elim

def okIt (P : Program) (gl : Nat → Option (List AV)) (sl : Nat → SV) (hp : Nat → Option HE) (it : It) : Prop :=
  (∀ K : SV → List (Nat × Option HE) → Prop, K it.out it.u → stepS P gl sl hp it.id it.o K) ∧ it.ft = it.o.op.fp (ev gl sl)
def runs (P : Program) (gl : Nat → Option (List AV)) : List It → (Nat → SV) → (Nat → Option HE) → Prop
  | [], _, _ => True
  | it :: r, sl, hp => okIt P gl sl hp it ∧ runs P gl r (putS sl it.o.dst it.out) (putH hp it.u)
def finS : List It → (Nat → SV) → Nat → SV
  | [], sl => sl
  | it :: r, sl => finS r (putS sl it.o.dst it.out)
def finH : List It → (Nat → Option HE) → Nat → Option HE
  | [], hp => hp
  | it :: r, hp => finH r (putH hp it.u)

/-- two operations that do not meddle with each other -/
def indepS (o o' : AOper) : Prop := (∀ d, o.dst = some d → d ∉ o'.rd) ∧ (∀ d, o'.dst = some d → d ∉ o.rd) ∧ (∀ d, o.dst = some d → o'.dst ≠ some d)
def indepH (i j : It) : Prop := ∀ b, (b ∈ i.u.map (·.1) → b ∉ j.ft ∧ b ∉ j.u.map (·.1)) ∧ (b ∈ j.u.map (·.1) → b ∉ i.ft)

theorem putS_ne {d : Option Nat} {out : SV} {i : Nat} (h : ∀ e, d = some e → i ≠ e) : putS sl d out i = sl i := by
  cases d with
  | none => rfl
  | some d => simp only [putS, upd_apply]; rw [if_neg (h d rfl)]
theorem putS_comm {d d' : Option Nat} {x y : SV} (h : ∀ e, d = some e → d' ≠ some e) : putS (putS sl d x) d' y = putS (putS sl d' y) d x := by
  cases d with
  | none => rfl
  | some d => cases d' with
    | none => rfl
    | some d' =>
      funext i
      have hne : d' ≠ d := fun e => h d rfl (by rw [e])
      simp only [putS, upd_apply]
      by_cases h1 : i = d <;> by_cases h2 : i = d'
      · exact absurd (h2.symm.trans h1) hne
      · simp [h1, Ne.symm hne]
      · simp [h2, hne]
      · simp [h1, h2]
theorem putH_notin : ∀ {u : List (Nat × Option HE)} {hp : Nat → Option HE} {b : Nat}, b ∉ u.map (·.1) → putH hp u b = hp b
  | [], _, _, _ => rfl
  | (c, x) :: u, hp, b, h => by
    simp only [List.map_cons, List.mem_cons, not_or] at h
    have := putH_notin (u := u) (hp := upd hp c x) (b := b) h.2
    simp only [putH, List.foldl_cons] at this ⊢
    rw [this, upd_ne _ _ h.1]
theorem putH_in : ∀ {u : List (Nat × Option HE)} {hp hp' : Nat → Option HE} {b : Nat}, (b ∈ u.map (·.1) ∨ hp b = hp' b) → putH hp u b = putH hp' u b
  | [], _, _, _, h => by simpa [putH] using h
  | (c, x) :: u, hp, hp', b, h => by
    simp only [putH, List.foldl_cons]
    refine putH_in (u := u) ?_
    simp only [upd_apply]
    by_cases hb : b = c
    · exact .inr (by simp [hb])
    · simp only [List.map_cons, List.mem_cons, hb, false_or] at h
      simpa [hb] using h
theorem putH_comm {u v : List (Nat × Option HE)} (h : ∀ b, b ∈ u.map (·.1) → b ∉ v.map (·.1)) : putH (putH hp u) v = putH (putH hp v) u := by
  funext b
  by_cases hu : b ∈ u.map (·.1)
  · rw [putH_notin (h b hu)]
    exact putH_in (.inl hu)
  · rw [putH_notin (u := u) hu]
    exact putH_in (.inr (putH_notin hu))

theorem okIt.loc {it : It} (hs : ∀ i ∈ it.o.rd, sl' i = sl i) (hh : ∀ b ∈ it.ft, hp' b = hp b) (h : okIt P gl sl hp it) : okIt P gl sl' hp' it := by
  refine ⟨fun K hk => stepS_loc hs (by rw [← h.2]; exact hh) (h.1 K hk), ?_⟩
  rw [h.2]
  exact (fp_loc fun x hx => ev_loc fun i hi => hs i (List.mem_append_left _ (List.mem_filterMap.2 ⟨x, hx, hi⟩))).symm

theorem runs_front {j : It} {L2 : List It} : ∀ (L1 : List It) (sl : Nat → SV) (hp : Nat → Option HE), (∀ i ∈ L1, indepS i.o j.o ∧ indepH i j) → runs P gl (L1 ++ j :: L2) sl hp →
    okIt P gl sl hp j ∧ runs P gl (L1 ++ L2) (putS sl j.o.dst j.out) (putH hp j.u) ∧
      finS (L1 ++ j :: L2) sl = finS (L1 ++ L2) (putS sl j.o.dst j.out) ∧ finH (L1 ++ j :: L2) hp = finH (L1 ++ L2) (putH hp j.u)
  | [], sl, hp, _, h => ⟨h.1, h.2, rfl, rfl⟩
  | i :: L1, sl, hp, hi, h => by
    obtain ⟨h1, h2, h3, h4⟩ := runs_front L1 _ _ (fun k hk => hi k (by simp [hk])) h.2
    obtain ⟨⟨a1, a2, a3⟩, hm⟩ := hi i (by simp)
    have eS : putS (putS sl i.o.dst i.out) j.o.dst j.out = putS (putS sl j.o.dst j.out) i.o.dst i.out := putS_comm a3
    have eH : putH (putH hp i.u) j.u = putH (putH hp j.u) i.u := putH_comm fun b hb => ((hm b).1 hb).2
    have oj : okIt P gl sl hp j := h1.loc (fun k hk => (putS_ne fun e he hke => a1 e he (hke ▸ hk)).symm) (fun b hb => (putH_notin fun hb' => ((hm b).1 hb').1 hb).symm)
    have oi : okIt P gl (putS sl j.o.dst j.out) (putH hp j.u) i := h.1.loc (fun k hk => putS_ne fun e he hke => a2 e he (hke ▸ hk)) (fun b hb => putH_notin fun hb' => (hm b).2 hb' hb)
    refine ⟨oj, ⟨oi, ?_⟩, ?_, ?_⟩
    · rw [← eS, ← eH]; exact h2
    · show finS (L1 ++ j :: L2) _ = finS (L1 ++ L2) _
      rw [h3, eS]
    · show finH (L1 ++ j :: L2) _ = finH (L1 ++ L2) _
      rw [h4, eH]
end

/-! ### the checks -/
/-- whom an operation comes after, as a mask -/
def maskOf (acc : List Nat) (aft : List Nat) : Nat := aft.foldl (fun m e => m ||| (1 <<< e) ||| acc.getD e 0) 0
def ancGo : List AOper → List Nat → List Nat
  | [], acc => acc
  | o :: r, acc => ancGo r (acc ++ [maskOf acc o.aft])
def ancs (ops : List AOper) : List Nat := ancGo ops []
def disj (xs ys : List Nat) : Bool := xs.all fun x => !ys.contains x
def optIn (d : Option Nat) (xs : List Nat) : Bool :=
  match d with
  | some d => xs.contains d
  | none => false
def indepB (o o' : AOper) : Bool := !optIn o.dst o'.rd && !optIn o'.dst o.rd && !(match o.dst, o'.dst with | some d, some e => d == e | _, _ => false)
def statGo (anc : List Nat) : List AOper → Nat → List (Nat × AOper) → Bool
  | [], _, _ => true
  | o :: r, k, prev => prev.all (fun p => (anc.getD k 0).testBit p.1 || indepB p.2 o) && o.aft.all (fun e => decide (e < k)) && statGo anc r (k + 1) ((k, o) :: prev)
def statOk (ops : List AOper) : Bool := statGo (ancs ops) ops 0 []
abbrev Ent := Nat × List Nat × List Nat
def entOk (anc : List Nat) (j i : Ent) : Bool := (anc.getD j.1 0).testBit i.1 || (disj i.2.1 j.2.2 && disj i.2.1 j.2.1 && disj j.2.1 i.2.2)
def chk (anc : List Nat) : List Ent → Bool
  | [] => true
  | j :: r => r.all (entOk anc j) && chk anc r
def evD (P : Program) (gl : Nat → Option (List AV)) (anc : List Nat) : List AOper → Nat → List Ent → (Nat → SV) → (Nat → Option HE) → Nat → (St → Prop) → Prop
  | [], _, acc, sl, hp, nx, Q => chk anc acc = true ∧ Q ⟨sl, hp, nx⟩
  | o :: r, k, acc, sl, hp, nx, Q => forceN nx fun j => stepS P gl sl hp j o fun out u => forceS out fun out => forceU u fun u => forceNs (o.op.fp (ev gl sl)) fun fp =>
    evD P gl anc r (k + 1) ((k, u.map (·.1), fp) :: acc) (putS sl o.dst out) (putH hp u) (j + 1) Q

theorem disj_spec {xs ys : List Nat} (h : disj xs ys = true) {b : Nat} (hb : b ∈ xs) : b ∉ ys := by
  have := List.all_eq_true.1 h b hb
  simpa using this
theorem indepB_spec {o o' : AOper} (h : indepB o o' = true) : indepS o o' := by
  simp only [indepB, Bool.and_eq_true, Bool.not_eq_true'] at h
  obtain ⟨⟨h1, h2⟩, h3⟩ := h
  refine ⟨fun d hd => ?_, fun d hd => ?_, fun d hd he => ?_⟩
  · rw [hd] at h1; simpa [optIn] using h1
  · rw [hd] at h2; simpa [optIn] using h2
  · rw [hd, he] at h3; simp at h3

theorem ancGo_get : ∀ (ops : List AOper) (acc : List Nat) (j : Nat), j < acc.length → (ancGo ops acc).getD j 0 = acc.getD j 0
  | [], acc, j, _ => rfl
  | o :: r, acc, j, h => by
    rw [ancGo, ancGo_get r _ j (by simp; omega)]
    simp only [List.getD_eq_getElem?_getD]
    rw [List.getElem?_append_left h]
theorem ancGo_at : ∀ (ops : List AOper) (acc : List Nat) (m : Nat) (o : AOper), ops[m]? = some o → ∃ acc', acc'.length = acc.length + m ∧ (ancGo ops acc).getD (acc.length + m) 0 = maskOf acc' o.aft ∧ ∀ i, i < acc'.length → (ancGo ops acc).getD i 0 = acc'.getD i 0
  | [], _, _, _, h => by simp at h
  | p :: r, acc, 0, o, h => by
    simp only [List.getElem?_cons_zero, Option.some.injEq] at h
    subst h
    refine ⟨acc, rfl, ?_, fun i hi => ?_⟩
    · rw [ancGo, ancGo_get r _ _ (by simp)]
      simp
    · rw [ancGo, ancGo_get r _ i (by simp; omega)]
      simp only [List.getD_eq_getElem?_getD]
      rw [List.getElem?_append_left hi]
  | p :: r, acc, m + 1, o, h => by
    obtain ⟨acc', h1, h2, h3⟩ := ancGo_at r (acc ++ [maskOf acc p.aft]) m o (by simpa using h)
    simp only [List.length_append, List.length_singleton] at h1 h2
    refine ⟨acc', by omega, ?_, h3⟩
    rw [ancGo, show acc.length + (m + 1) = acc.length + 1 + m by omega]
    exact h2
theorem mask_spec (acc : List Nat) (i : Nat) : ∀ (aft : List Nat) (m : Nat), (aft.foldl (fun m e => m ||| (1 <<< e) ||| acc.getD e 0) m).testBit i = true → m.testBit i = true ∨ ∃ e ∈ aft, e = i ∨ (acc.getD e 0).testBit i = true
  | [], m, h => .inl h
  | e :: r, m, h => by
    rcases mask_spec acc i r _ h with h | ⟨e', he', h⟩
    · simp only [Nat.testBit_or, Bool.or_eq_true] at h
      rcases h with (h | h) | h
      · exact .inl h
      · refine .inr ⟨e, by simp, .inl ?_⟩
        rw [Nat.one_shiftLeft, Nat.testBit_two_pow] at h
        simpa using h
      · exact .inr ⟨e, by simp, .inr h⟩
    · exact .inr ⟨e', by simp [he'], h⟩
theorem ancs_spec {ops : List AOper} {j i : Nat} {o : AOper} (ho : ops[j]? = some o) (h : ((ancs ops).getD j 0).testBit i = true) : ∃ e ∈ o.aft, e = i ∨ ((ancs ops).getD e 0).testBit i = true := by
  obtain ⟨acc', h1, h2, h3⟩ := ancGo_at ops [] j o ho
  simp only [List.length_nil, Nat.zero_add] at h1 h2
  rw [ancs, h2] at h
  rcases mask_spec acc' i o.aft 0 h with h | ⟨e, he, h⟩
  · simp at h
  · refine ⟨e, he, h.imp_right fun h => ?_⟩
    rcases Nat.lt_or_ge e acc'.length with hl | hl
    · rw [ancs, h3 e hl]; exact h
    · simp [List.getD_eq_getElem?_getD, List.getElem?_eq_none hl] at h

theorem statGo_spec {anc : List Nat} : ∀ (ops : List AOper) (k : Nat) (prev : List (Nat × AOper)), statGo anc ops k prev = true →
    (∀ m o, ops[m]? = some o → (∀ p ∈ prev, (anc.getD (k + m) 0).testBit p.1 = true ∨ indepS p.2 o) ∧ ∀ e ∈ o.aft, e < k + m) ∧
    ∀ m m' o o', m < m' → ops[m]? = some o → ops[m']? = some o' → (anc.getD (k + m') 0).testBit (k + m) = true ∨ indepS o o'
  | [], _, _, _ => ⟨by simp, by simp⟩
  | o :: r, k, prev, h => by
    simp only [statGo, Bool.and_eq_true] at h
    obtain ⟨⟨h1, h2⟩, h3⟩ := h
    obtain ⟨g1, g2⟩ := statGo_spec r (k + 1) _ h3
    refine ⟨fun m q hq => ?_, fun m m' q q' hm hq hq' => ?_⟩
    · cases m with
      | zero =>
        simp only [List.getElem?_cons_zero, Option.some.injEq] at hq
        subst hq
        refine ⟨fun p hp => ?_, fun e he => by simpa using List.all_eq_true.1 h2 e he⟩
        have := List.all_eq_true.1 h1 p hp
        simp only [Bool.or_eq_true] at this
        exact this.imp_right indepB_spec
      | succ m =>
        obtain ⟨x1, x2⟩ := g1 m q (by simpa using hq)
        rw [show k + (m + 1) = k + 1 + m by omega]
        exact ⟨fun p hp => x1 p (by simp [hp]), x2⟩
    · cases m' with
      | zero => omega
      | succ m' =>
        rw [show k + (m' + 1) = k + 1 + m' by omega]
        cases m with
        | zero =>
          simp only [List.getElem?_cons_zero, Option.some.injEq] at hq
          subst hq
          exact (g1 m' q' (by simpa using hq')).1 (k, o) (by simp)
        | succ m =>
          rw [show k + (m + 1) = k + 1 + m by omega]
          exact g2 m m' q q' (by omega) (by simpa using hq) (by simpa using hq')

def It.ent (k : Nat) (it : It) : Ent := (k, it.u.map (·.1), it.ft)
theorem entOk_spec {anc : List Nat} {i j : It} {k m : Nat} (h : entOk anc (j.ent m) (i.ent k) = true) : (anc.getD m 0).testBit k = true ∨ indepH i j := by
  simp only [entOk, It.ent, Bool.or_eq_true, Bool.and_eq_true] at h
  refine h.imp_right fun h b => ⟨fun hb => ⟨disj_spec h.1.1 hb, disj_spec h.1.2 hb⟩, fun hb => disj_spec h.2 hb⟩

theorem evD_runs {P : Program} {gl : Nat → Option (List AV)} {anc : List Nat} {Q : St → Prop} : ∀ (ops : List AOper) (k : Nat) (acc : List Ent) (st : St), evD P gl anc ops k acc st.sl st.hp st.nx Q →
    ∃ its : List It, its.map (·.o) = ops ∧ (∀ (m : Nat) (it : It), its[m]? = some it → it.id = st.nx + m) ∧ runs P gl its st.sl st.hp ∧ Q ⟨finS its st.sl, finH its st.hp, st.nx + ops.length⟩ ∧
      chk anc acc = true ∧ (∀ (m : Nat) (it : It), its[m]? = some it → ∀ e ∈ acc, entOk anc (it.ent (k + m)) e = true) ∧
      ∀ (m m' : Nat) (i j : It), m < m' → its[m]? = some i → its[m']? = some j → entOk anc (j.ent (k + m')) (i.ent (k + m)) = true
  | [], k, acc, st, h => ⟨[], rfl, by simp, trivial, h.2, h.1, by simp, by simp⟩
  | o :: r, k, acc, st, h => by
    rw [evD, forceN_eq] at h
    obtain ⟨out, u, h1, h2⟩ := stepS_pt h
    rw [forceS_eq, forceU_eq, forceNs_eq] at h1
    obtain ⟨its, e1, e2, e3, e4, e5, e6, e7⟩ := evD_runs r _ _ ⟨putS st.sl o.dst out, putH st.hp u, st.nx + 1⟩ h1
    simp only [chk, Bool.and_eq_true] at e5
    refine ⟨⟨o, st.nx, out, u, o.op.fp (ev gl st.sl)⟩ :: its, by simp [e1], ?_, ⟨⟨h2, rfl⟩, e3⟩, ?_, e5.2, ?_, ?_⟩
    · intro m it hm
      cases m with
      | zero => simp only [List.getElem?_cons_zero, Option.some.injEq] at hm; subst hm; rfl
      | succ m =>
        have := e2 m it (by simpa using hm)
        simp only at this
        omega
    · simp only [List.length_cons, finS, finH]
      rw [show st.nx + (r.length + 1) = st.nx + 1 + r.length by omega]
      exact e4
    · intro m it hm e he
      cases m with
      | zero =>
        simp only [List.getElem?_cons_zero, Option.some.injEq] at hm
        subst hm
        exact List.all_eq_true.1 e5.1 e he
      | succ m =>
        rw [show k + (m + 1) = k + 1 + m by omega]
        exact e6 m it (by simpa using hm) e (by simp [he])
    · intro m m' i j hlt hm hm'
      cases m' with
      | zero => omega
      | succ m' =>
        rw [show k + (m' + 1) = k + 1 + m' by omega]
        cases m with
        | zero =>
          simp only [List.getElem?_cons_zero, Option.some.injEq] at hm
          subst hm
          exact e6 m' j (by simpa using hm') _ (by simp [It.ent])
        | succ m =>
          rw [show k + (m + 1) = k + 1 + m by omega]
          exact e7 m m' i j (by omega) (by simpa using hm) (by simpa using hm')
end Go.Proofs.YtlbafapmhjfobaaGreatDoor
namespace Go.Proofs.YtlbafapmhjfobaaGreatDoor
variable {P : Program} {E : Env} {F : Fence} {n : Nat} {Q : Exit → Act → World → Prop}

theorem compOper_aft {nt : Nat} {ops : Array Oper} {o : Oper} {ao : AOper} (hc : compOper P nt ops o = some ao) : ao.aft = compAft o := by
  unfold compOper at hc
  obtain ⟨aop, _, hc⟩ := Option.bind_eq_some_iff.1 hc
  split at hc
  · split at hc
    · cases hc; rfl
    · split at hc
      · cases hc; rfl
      · cases hc
  · cases hc
theorem mem_compAft {o : Oper} {e : Nat} (h : e ∈ compAft o) : ∃ d ∈ o.after, Region.binds .any d = true ∧ d.on = e := by
  obtain ⟨d, hd, he⟩ := List.mem_filterMap.1 h
  split at he
  · rename_i hb; exact ⟨d, by simpa using hd, hb, by simpa using he⟩
  · cases he
theorem compAft_mem {o : Oper} {d : Edge} (h : d ∈ o.after) (hb : Region.binds .any d = true) : d.on ∈ compAft o :=
  List.mem_filterMap.2 ⟨d, by simpa using h, by simp [hb]⟩

theorem anyD_sound {ops : Array Oper} {nt : Nat} (hnt : nt = E.nt) (hF : WideF F) {its : List It} {nx0 : Nat} {R : St → Prop} {anc : Nat → Nat → Prop}
    (hops : ∀ (k : Nat) (o : Oper), ops[k]? = some o → ∃ it, its[k]? = some it ∧ compOper P nt ops o = some it.o) (hlen : its.length = ops.size)
    (hid : ∀ (m : Nat) (it : It), its[m]? = some it → it.id = nx0 + m)
    (hanc : ∀ (j : Nat) (it : It), its[j]? = some it → ∀ i, anc j i → ∃ e ∈ it.o.aft, e = i ∨ anc e i)
    (haft : ∀ (j : Nat) (it : It), its[j]? = some it → ∀ e ∈ it.o.aft, e < j)
    (hind : ∀ (i j : Nat) (x y : It), i < j → its[i]? = some x → its[j]? = some y → anc j i ∨ (indepS x.o y.o ∧ indepH x y))
    (hQ : ∀ a w, At E R a w → Q .normal a w) :
    ∀ (m : Nat) (listed : Array Bool) (L : List Nat) (sl : Nat → SV) (hp : Nat → Option HE) (A : Nat → Prop) (ρ : Nat → Cn) (imm : Nat → Prop) (a : Act) (w : World), L.length = m → listed.size = ops.size →
      L = (List.range ops.size).filter (fun i => !listed.getD i true) →
      (∀ j, listed.getD j false = true → ∀ i, anc j i → listed.getD i false = true) →
      runs P E.gl (L.filterMap (its[·]?)) sl hp → R ⟨finS (L.filterMap (its[·]?)) sl, finH (L.filterMap (its[·]?)) hp, nx0 + ops.size⟩ →
      (∀ i ∈ L, ¬ A (nx0 + i)) → (∀ b, A b → b < nx0 + ops.size) → Real E A sl hp ρ imm a w → wpAnyIn F n P .any ops Q m listed a w := by
  have hL : ∀ (listed : Array Bool) (L : List Nat), listed.size = ops.size → L = (List.range ops.size).filter (fun i => !listed.getD i true) → ∀ i, i ∈ L ↔ listed.getD i true = false := by
    rintro listed L hsz rfl i
    simp only [List.mem_filter, List.mem_range, Bool.not_eq_true']
    constructor
    · exact fun h => h.2
    · intro h
      refine ⟨?_, h⟩
      rcases Nat.lt_or_ge i listed.size with hl | hl
      · omega
      · simp [Array.getD_eq_getD_getElem?, Array.getElem?_eq_none hl] at h
  have hT : ∀ (listed : Array Bool), listed.size = ops.size → ∀ i, i < ops.size → listed.getD i true ≠ false → listed.getD i false = true := by
    intro listed hsz i hi h
    have hl : i < listed.size := by omega
    simp only [Array.getD_eq_getD_getElem?, Array.getElem?_eq_getElem hl, Option.getD_some] at h ⊢
    simpa using h
  have hT' : ∀ (listed : Array Bool) (i : Nat), listed.getD i true = false → listed.getD i false = true → False := by
    intro listed i h h'
    simp only [Array.getD_eq_getD_getElem?] at h h'
    cases hx : listed[i]? with
    | none => rw [hx] at h; simp at h
    | some b => rw [hx] at h h'; simp at h h'; rw [h] at h'; cases h'
  intro m
  induction m with
  | zero =>
    intro listed L sl hp A ρ imm a w hm hsz hLe hcl hr hR hA hA' hreal
    have hnil : L = [] := List.length_eq_zero_iff.1 hm
    refine ⟨List.eq_nil_iff_forall_not_mem.2 fun j hj => ?_, hQ _ _ ⟨_, ρ, imm, hR, ?_⟩⟩
    · have := (hL listed L hsz hLe j).2 (mem_ready.1 hj).1
      rw [hnil] at this; cases this
    · rw [hnil]; exact hreal.weakA hA'
  | succ m ih =>
    intro listed L sl hp A ρ imm a w hm hsz hLe hcl hr hR hA hA' hreal
    have hsorted : L.Pairwise (· < ·) := by rw [hLe]; exact List.pairwise_lt_range.filter _
    have hsize : ∀ i, i ∈ L → i < ops.size := by
      intro i hi
      rw [hLe] at hi
      exact List.mem_range.1 (List.mem_filter.1 hi).1
    refine ⟨fun hnr => ?_, fun i hi => ?_⟩
    · exfalso
      cases hLc : L with
      | nil => rw [hLc] at hm; cases hm
      | cons i0 L' =>
        have hi0 : i0 ∈ L := by rw [hLc]; simp
        have hlt := hsize i0 hi0
        obtain ⟨it, h1, h2⟩ := hops i0 ops[i0] (by simp [hlt])
        have : i0 ∈ Region.ready .any ops listed := by
          refine mem_ready.2 ⟨(hL listed L hsz hLe i0).1 hi0, ops[i0], by simp [hlt], fun d hd hb => ?_⟩
          have hd' : d.on ∈ it.o.aft := by rw [compOper_aft h2]; exact compAft_mem hd hb
          have hlt' := haft i0 it h1 _ hd'
          refine hT listed hsz _ (by omega) fun hu => ?_
          have hmem := (hL listed L hsz hLe d.on).2 hu
          rw [hLc] at hmem hsorted
          rcases List.mem_cons.1 hmem with he | he
          · omega
          · have := (List.pairwise_cons.1 hsorted).1 _ he; omega
        rw [hnr] at this; cases this
    · obtain ⟨hu, o, ho, hall⟩ := mem_ready.1 hi
      have hiL := (hL listed L hsz hLe i).2 hu
      obtain ⟨it, hit, hco⟩ := hops i o ho
      obtain ⟨L1, L2, hsplit⟩ := List.append_of_mem hiL
      have hL1 : ∀ k ∈ L1, k < i := by
        intro k hk
        rw [hsplit] at hsorted
        exact (List.pairwise_append.1 hsorted).2.2 k hk i (by simp)
      have hne : ∀ k ∈ L1 ++ L2, k ≠ i := by
        intro k hk
        rcases List.mem_append.1 hk with hk | hk
        · have := hL1 k hk; omega
        · rw [hsplit] at hsorted
          have := (List.pairwise_cons.1 (List.pairwise_append.1 hsorted).2.1).1 k hk
          omega
      have hfm : L.filterMap (its[·]?) = L1.filterMap (its[·]?) ++ it :: L2.filterMap (its[·]?) := by
        rw [hsplit, List.filterMap_append, List.filterMap_cons_some hit]
      rw [hfm] at hr hR
      obtain ⟨g1, g2, g3, g4⟩ := runs_front _ _ _ (fun x hx => by
        obtain ⟨k, hk, hkx⟩ := List.mem_filterMap.1 hx
        refine (hind k i x it (hL1 k hk) hkx hit).resolve_left fun hak => ?_
        obtain ⟨e, he, hor⟩ := hanc i it hit k hak
        rw [compOper_aft hco] at he
        obtain ⟨d, hd, hb, hde⟩ := mem_compAft he
        have hdl := hall d hd hb
        rw [hde] at hdl
        have hkl : listed.getD k false = true := by
          rcases hor with rfl | hor
          · exact hdl
          · exact hcl e hdl k hor
        exact hT' listed k ((hL listed L hsz hLe k).1 (by rw [hsplit]; simp [hk])) hkl) hr
      have hidi := hid i it hit
      have hs := g1.1 (fun out u => out = it.out ∧ u = it.u) ⟨rfl, rfl⟩
      have hone := oper_sound (n := n) (Q := Q) hco hnt hF hreal (by rw [hidi]; exact hA i hiL) hs
      have : wpOpIn F n P ops Q i (wpAnyIn F n P .any ops Q m (listed.setIfInBounds i true)) a w = wpOne F n P ops Q o (wpAnyIn F n P .any ops Q m (listed.setIfInBounds i true)) a w := by
        unfold wpOpIn wpOne; rw [ho]
      rw [this]
      refine wpOne_mono (fun a' w' hpost => ?_) hone
      obtain ⟨out, u, ρ', imm', ⟨rfl, rfl⟩, hreal'⟩ := hpost
      have hLne : (listed.setIfInBounds i true).size = ops.size := by simpa using hsz
      have hset : ∀ k, k ≠ i → ∀ b, (listed.setIfInBounds i true).getD k b = listed.getD k b := fun k hk b => getD_set_ne b (Ne.symm hk)
      have hseti : ∀ b, (listed.setIfInBounds i true).getD i b = true := by
        intro b
        have hl : i < listed.size := by have := hsize i hiL; omega
        simp [Array.getD_eq_getD_getElem?, hl]
      refine ih _ (L1 ++ L2) _ _ _ ρ' imm' a' w' ?_ hLne ?_ ?_ ?_ ?_ ?_ ?_ hreal'
      · rw [hsplit] at hm; simp at hm ⊢; omega
      · have e1 : (List.range ops.size).filter (fun k => !(listed.setIfInBounds i true).getD k true) = L.filter (fun k => decide (k ≠ i)) := by
          rw [hLe, List.filter_filter]
          refine List.filter_congr fun k _ => ?_
          by_cases hk : k = i
          · subst hk; rw [hseti]; simp
          · rw [hset k hk]; simp [hk]
        rw [e1, hsplit]
        have e2 : (L1 ++ i :: L2).filter (fun k => decide (k ≠ i)) = L1.filter (fun k => decide (k ≠ i)) ++ L2.filter (fun k => decide (k ≠ i)) := by simp
        rw [e2, List.filter_eq_self.2 (fun k hk => by simpa using hne k (by simp [hk])), List.filter_eq_self.2 (fun k hk => by simpa using hne k (by simp [hk]))]
      · intro j hj k hk
        by_cases hji : j = i
        · subst hji
          obtain ⟨e, he, hor⟩ := hanc j it hit k hk
          rw [compOper_aft hco] at he
          obtain ⟨d, hd, hb, hde⟩ := mem_compAft he
          have hdl := hall d hd hb
          rw [hde] at hdl
          refine getD_set_true ?_
          rcases hor with rfl | hor
          · exact hdl
          · exact hcl e hdl k hor
        · rw [hset j hji] at hj
          exact getD_set_true (hcl j hj k hk)
      · rw [List.filterMap_append]; exact g2
      · rw [List.filterMap_append, ← g3, ← g4]; exact hR
      · intro k hk hak
        rcases hak with hak | hak
        · refine hA k ?_ hak
          rw [hsplit]
          rcases List.mem_append.1 hk with hk | hk <;> simp [hk]
        · rw [hidi] at hak
          exact hne k hk (by omega)
      · rintro b (hb | hb)
        · exact hA' b hb
        · rw [hb, hidi]
          have := hsize i hiL
          omega

theorem filterMap_range {α : Type} : ∀ (l : List α), (List.range l.length).filterMap (l[·]?) = l
  | [] => rfl
  | x :: l => by
    rw [List.length_cons, List.range_succ_eq_map, List.filterMap_cons_some (f := fun k => (x :: l)[k]?) (b := x) rfl, List.filterMap_map]
    simp only [Function.comp_def, List.getElem?_cons_succ]
    exact congrArg _ (filterMap_range l)

/-- a region in any order -/
theorem evD_sound {ops : Array Oper} {nt : Nat} (hnt : nt = E.nt) (hF : WideF F) {as : List AOper} {R : St → Prop} {st : St} {a : Act} {w : World} {ρ : Nat → Cn} {imm : Nat → Prop}
    (hc : compOps P nt ops = some as) (hst : statOk as = true) (hQ : ∀ a w, At E R a w → Q .normal a w) (hreal : Real E (fun b => b < st.nx) st.sl st.hp ρ imm a w)
    (hs : evD P E.gl (ancs as) as 0 [] st.sl st.hp st.nx R) : wpAnyIn F n P .any ops Q ops.size (Array.replicate ops.size false) a w := by
  obtain ⟨its, e1, e2, e3, e4, _, _, e7⟩ := evD_runs as 0 [] st hs
  have hmap : ∀ (l : List Oper) (as : List AOper), l.mapM (compOper P nt ops) = some as → as.length = l.length ∧ ∀ (k : Nat) (o : Oper), l[k]? = some o → ∃ ao, as[k]? = some ao ∧ compOper P nt ops o = some ao := by
    intro l
    induction l with
    | nil => intro as h; simp only [List.mapM_nil] at h; cases h; simp
    | cons o l ih =>
      intro as h
      rw [List.mapM_cons] at h
      obtain ⟨ao, hao, h⟩ := Option.bind_eq_some_iff.1 h
      obtain ⟨as', has, h⟩ := Option.bind_eq_some_iff.1 h
      cases h
      obtain ⟨g1, g2⟩ := ih as' has
      refine ⟨by simp [g1], fun k p hk => ?_⟩
      cases k with
      | zero => simp only [List.getElem?_cons_zero, Option.some.injEq] at hk; subst hk; exact ⟨ao, rfl, hao⟩
      | succ k => simpa using g2 k p (by simpa using hk)
  obtain ⟨m1, m2⟩ := hmap ops.toList as hc
  have m1 : as.length = ops.size := by simpa using m1
  have hits : its.length = as.length := by rw [← e1]; simp
  have hat : ∀ (k : Nat) (it : It), its[k]? = some it → as[k]? = some it.o := by
    intro k it h; rw [← e1]; simp [h]
  obtain ⟨s1, s2⟩ := statGo_spec as 0 [] hst
  have hall : (List.range ops.size).filterMap (its[·]?) = its := by
    rw [← m1, ← hits]
    exact filterMap_range its
  have hrep : ∀ i b, (Array.replicate ops.size false).getD i b = if i < ops.size then false else b := by
    intro i b
    simp only [Array.getD_eq_getD_getElem?, Array.getElem?_replicate]
    split <;> rfl
  have hfil : (List.range ops.size).filter (fun i => !(Array.replicate ops.size false).getD i true) = List.range ops.size := by
    refine List.filter_eq_self.2 fun k hk => ?_
    rw [hrep, if_pos (List.mem_range.1 hk)]; rfl
  refine anyD_sound (its := its) (nx0 := st.nx) (anc := fun j i => ((ancs as).getD j 0).testBit i = true) hnt hF ?_ (by omega) e2 ?_ ?_ ?_ hQ ops.size _ (List.range ops.size) st.sl st.hp (fun b => b < st.nx) ρ imm a w (by simp) (by simp) hfil.symm ?_ ?_ ?_ ?_ ?_ hreal
  · intro k o hk
    obtain ⟨ao, h1, h2⟩ := m2 k o (by simpa using hk)
    rw [← e1, List.getElem?_map] at h1
    obtain ⟨it, h3, h4⟩ := Option.map_eq_some_iff.1 h1
    exact ⟨it, h3, by rw [h4]; exact h2⟩
  · intro j it hj i hi
    exact ancs_spec (hat j it hj) hi
  · intro j it hj e he
    have := (s1 j it.o (hat j it hj)).2 e he
    omega
  · intro i j x y hij hx hy
    have h1 := s2 i j x.o y.o hij (hat i x hx) (hat j y hy)
    have h2 := entOk_spec (e7 i j x y hij hx hy)
    simp only [Nat.zero_add] at h1 h2
    by_cases hb : ((ancs as).getD j 0).testBit i = true
    · exact .inl hb
    · exact .inr ⟨h1.resolve_left hb, h2.resolve_left hb⟩
  · intro j hj
    rw [hrep] at hj
    split at hj <;> cases hj
  · rw [hall]; exact e3
  · rw [hall, ← m1]; exact e4
  · intro i _ h; omega
  · intro b hb; omega
end Go.Proofs.YtlbafapmhjfobaaGreatDoor
namespace Go.Proofs.YtlbafapmhjfobaaGreatDoor
variable {P : Program} {E E' : Env} {F : Fence} {n : Nat} {A A' : Nat → Prop} {sl sl' : Nat → SV} {hp hp' : Nat → Option HE} {ρ ρ' : Nat → Cn} {imm imm' : Nat → Prop} {a a' : Act} {w w' : World} {gl : Nat → Option (List AV)}

theorem mark_inj : ∀ {ds ds' : List Nat}, ds.map mark = ds'.map mark → ds = ds'
  | [], [], _ => rfl
  | d :: ds, e :: es, h => by
    simp only [List.map_cons, List.cons.injEq, mark, Deferred.mk.injEq, Target.collected.injEq] at h
    rw [h.1.1, mark_inj h.2]
  | [], _ :: _, h => by cases h
  | _ :: _, [], h => by cases h

theorem Real.usedlt (h : Real E A sl hp ρ imm a w) {x : Nat} (hx : usedBy hp ρ x) : x < w.heap.size ∧ ¬ imm x ∧ (E.w0.heap.size ≤ x ∨ E.S x) := by
  obtain ⟨b, he, hb, hu, rfl⟩ := hx
  exact h.used b he hb hu

/-- the world turns elsewhere; the environment may be another one -/
theorem Real.turn {Wt : Nat → Prop} (h : Real E A sl hp ρ imm a w) (hw : Ext Wt w w') (hWt : ∀ x, Wt x → ¬ imm x ∧ ¬ usedBy hp ρ x) (hi : ∀ x, imm x → imm' x)
    (hi' : ∀ x, imm' x → x < w'.heap.size ∧ ¬ usedBy hp ρ x ∧ (E'.imm0 x ∨ E'.w0.heap.size ≤ x ∨ E'.S x))
    (hnt : a'.tmps.size = E'.nt) (hgl : E'.gl = E.gl)
    (hsl : ∀ i, RS w' imm' ρ (sl' i) (a'.tmps.getD i undef) ∧ ∀ x ∈ (sl' i).cells, okC A hp x)
    (hused : ∀ x, usedBy hp ρ x → E'.w0.heap.size ≤ x ∨ E'.S x) (hi0 : ∀ x, E'.imm0 x → imm' x) (hext : Ext E'.S E'.w0 w')
    (hpin : ∀ b c, E'.pin b = some c → b < 100 ∧ A b ∧ ρ b = c ∧ ∀ k xs, hp b ≠ some (.row k xs))
    (hpinr : ∀ c, E'.pinr = some c → A 0 ∧ ∀ k xs, hp 0 = some (.row k xs) → c.len ≤ xs.length ∧ (xs.length = c.len → ρ 0 = c))
    (hdefs : ∃ ds : List Nat, a'.defers = ds.map mark ++ E'.defs ∧ (ds.Nodup ∧ (E'.q = true → ds = [])) ∧ ∀ D ∈ ds, w'.heap[D]? = some (.deferred (some [])) ∧ E'.w0.heap.size ≤ D ∧ ¬ imm' D ∧ ¬ usedBy hp ρ D)
    (hJ : E'.J imm' (usedBy hp ρ) w') : Real E' A sl' hp ρ imm' a' w' := by
  have hblk : ∀ b, imm b → w'.heap[b]? = w.heap[b]? := fun b hb => hw.block b (h.immlt b hb) (fun hx => (hWt b hx).1 hb)
  refine { wf := ⟨fun i => (hsl i).2, h.wf.idh⟩, slots := fun i => (hsl i).1, nt := hnt, defs := hdefs, heap := fun b he hb => ?_, used := fun b he hb hu => ⟨?_, ?_, hused _ ⟨b, he, hb, hu, rfl⟩⟩, inj := h.inj, immlt := fun x hx => (hi' x hx).1, imm0 := hi0, immF := fun x hx => (hi' x hx).2.2, ext := hext, glob := ?_, pin := hpin, pinr := hpinr, jinv := hJ }
  · exact (h.heap b he hb).mono hi hblk (fun hu => hw.block _ (h.used b he hb hu).1 (fun hx => (hWt _ hx).2 ⟨b, he, hb, hu, rfl⟩))
  · exact Nat.lt_of_lt_of_le (h.used b he hb hu).1 hw.size
  · exact fun hx => (hi' _ hx).2.1 ⟨b, he, hb, hu, rfl⟩
  · intro g cs hg
    rw [hgl] at hg
    exact (h.glob g cs hg).mono hi hblk

/-- .. the same environment -/
theorem Real.later {Wt : Nat → Prop} (h : Real E A sl hp ρ imm a w) (hw : Ext Wt w w') (hWt : ∀ x, Wt x → ¬ imm x ∧ ¬ usedBy hp ρ x ∧ (E.w0.heap.size ≤ x ∨ E.S x)) (hi : ∀ x, imm x → imm' x)
    (hi' : ∀ x, imm' x → x < w'.heap.size ∧ ¬ usedBy hp ρ x ∧ (E.imm0 x ∨ E.w0.heap.size ≤ x ∨ E.S x)) (ht : a'.tmps = a.tmps)
    (hdefs : ∃ ds : List Nat, a'.defers = ds.map mark ++ E.defs ∧ (ds.Nodup ∧ (E.q = true → ds = [])) ∧ ∀ D ∈ ds, w'.heap[D]? = some (.deferred (some [])) ∧ E.w0.heap.size ≤ D ∧ ¬ imm' D ∧ ¬ usedBy hp ρ D)
    (hJ : E.J imm' (usedBy hp ρ) w') : Real E A sl hp ρ imm' a' w' := by
  have hblk : ∀ b, imm b → w'.heap[b]? = w.heap[b]? := fun b hb => hw.block b (h.immlt b hb) (fun hx => (hWt b hx).1 hb)
  exact h.turn hw (fun x hx => ⟨(hWt x hx).1, (hWt x hx).2.1⟩) hi hi' (by rw [ht]; exact h.nt) rfl (fun i => ⟨by rw [ht]; exact (h.slots i).mono hi hblk, h.wf.ids i⟩) (fun x hx => (h.usedlt hx).2.2)
    (fun x hx => hi x (h.imm0 x hx)) (h.ext.trans hw fun x hx => (hWt x hx).2.2.symm) h.pin h.pinr hdefs hJ

theorem ext_setBlk {w : World} {b : Nat} {o : Obj} : Ext (fun x => x = b) w (w.putObj b o) :=
  ⟨rfl, rfl, rfl, Nat.le_refl _, by simp, fun c _ hn => World.putObj_heap_other hn⟩
theorem ext_alloc {w : World} {o : Obj} : Ext (fun _ => False) w (w.alloc o) :=
  ⟨rfl, rfl, rfl, Nat.le_refl _, by simp, fun c hc _ => by
    show (w.heap.push o)[c]? = _
    rw [Array.getElem?_push, if_neg (by omega)]⟩

/-- blocks that nobody here turns -/
def guardJ (G : Nat → Prop) (g : Nat → Option Obj) : (Nat → Prop) → (Nat → Prop) → World → Prop := fun imm Z w => ∀ x, G x → ¬ imm x ∧ ¬ Z x ∧ w.heap[x]? = g x ∧ (g x).isSome = true
theorem guardJ_stable (G : Nat → Prop) (g : Nat → Option Obj) : JStable (guardJ G g) := by
  intro imm Z w imm' Z' w' Wt h _ hw hWt hi hi' hZ x hx
  obtain ⟨h1, h2, h3, h4⟩ := h x hx
  have hlt : x < w.heap.size := by
    rw [← h3] at h4
    obtain ⟨o, ho⟩ := Option.isSome_iff_exists.1 h4
    exact (Array.getElem?_eq_some_iff.1 ho).1
  refine ⟨fun hx' => ?_, fun hx' => ?_, (hw.block x hlt (fun hx' => h2 (hWt x hx'))).trans h3, h4⟩
  · rcases (hi' x hx').2 with h5 | h5 | h5
    · exact h1 h5
    · exact h2 h5
    · omega
  · rcases hZ x hx' with h5 | h5
    · exact h2 h5
    · omega
theorem trueJ_stable : JStable (fun _ _ _ => True) := fun _ _ _ _ _ _ _ _ _ _ _ _ _ _ => trivial

/-- what of a cell is still known behind other people's steps -/
def stripA (hp : Nat → Option HE) (x : AV) : AV :=
  match x with
  | .ptr b o => match Nat.blt b 100 with
    | true => match hp b with
      | some (.box _) => .ptr b o
      | _ => .any
    | false => .any
  | .mp b => match Nat.blt b 100 with
    | true => match hp b with
      | some (.keys _ _) => .mp b
      | _ => .any
    | false => .any
  | .own _ _ | .ept _ _ _ _ | .part _ _ _ _ => .any
  | x => x
def stripS (hp : Nat → Option HE) : SV → SV
  | .c ag cs => .c ag (cs.map (stripA hp))
  | _ => .top
def strip (hp : Nat → Option HE) (sl : Nat → SV) : Nat → SV := fun i => stripS hp (sl i)
theorem stripA_cases (hp : Nat → Option HE) (x : AV) : stripA hp x = .any ∨ (stripA hp x = x ∧ x.pers = true) ∨ (stripA hp x = x ∧ (x = .any ∨ ∃ b, x.id? = some b ∧ b < 100 ∧ ((∃ o, x = .ptr b o) ∨ x = .mp b) ∧ (∀ k xs, hp b ≠ some (.row k xs)) ∧ ∃ he, hp b = some he)) := by
  cases x with
  | ptr b o =>
    simp only [stripA]
    split
    · rename_i hb
      split
      · rename_i cs he; exact .inr (.inr ⟨rfl, .inr ⟨b, rfl, by simpa using hb, .inl ⟨o, rfl⟩, (fun k xs h => by rw [he] at h; cases h), _, he⟩⟩)
      · exact .inl rfl
    · exact .inl rfl
  | mp b =>
    simp only [stripA]
    split
    · rename_i hb
      split
      · rename_i ds ks he; exact .inr (.inr ⟨rfl, .inr ⟨b, rfl, by simpa using hb, .inr rfl, (fun k xs h => by rw [he] at h; cases h), _, he⟩⟩)
      · exact .inl rfl
    · exact .inl rfl
  | own | ept | part => exact .inl rfl
  | any => exact .inl rfl
  | v | li | ref | fn => exact .inr (.inl ⟨rfl, rfl⟩)

theorem stripS_RS {s : SV} {u : Value} (hi : ∀ x, imm x → imm' x) (hblk : ∀ b, imm b → w'.heap[b]? = w.heap[b]?) (hρ : ∀ b he, b < 100 → hp b = some he → (∀ k xs, hp b ≠ some (.row k xs)) → A b → ρ' b = ρ b) (hok : ∀ x ∈ s.cells, okC A hp x)
    (h : RS w imm ρ s u) : RS w' imm' ρ' (stripS hp s) u := by
  cases s with
  | top => trivial
  | tup => trivial
  | c ag cs =>
    refine RS.via (g := stripA hp) rfl (fun x hx v hr => ?_) h
    rcases stripA_cases hp x with e | ⟨e, h1⟩ | ⟨e, rfl | ⟨b, h1, h2, h3, h4, he, h5⟩⟩
    · rw [e]; exact hr.one
    · rw [e]
      have : RA w' imm' ρ x v := hr.mono hi hblk
      rw [RA.of_pers h1] at this ⊢; exact this
    · rw [e]; exact hr
    · rw [e]
      have hA : A b := (hok x hx b h1).1
      have := hρ b he h2 h5 h4 hA
      rcases h3 with ⟨o, rfl⟩ | rfl
      · simp only [RA] at hr ⊢; rw [this]; exact hr
      · simp only [RA] at hr ⊢; rw [this]; exact hr
theorem stripS_ok {s : SV} {hp0 : Nat → Option HE} (hb : ∀ b he, b < 100 → hp0 b = some he → (∀ k xs, hp0 b ≠ some (.row k xs)) → A b → A' b ∧ ∀ k xs, hp' b ≠ some (.row k xs)) (hok : ∀ x ∈ s.cells, okC A hp0 x) : ∀ x ∈ (stripS hp0 s).cells, okC A' hp' x := by
  intro y hy
  cases s with
  | top => simp [stripS, SV.cells] at hy
  | tup => simp [stripS, SV.cells] at hy
  | c ag cs =>
    simp only [stripS, SV.cells, List.mem_map] at hy
    obtain ⟨x, hx, rfl⟩ := hy
    rcases stripA_cases hp0 x with e | ⟨e, h1⟩ | ⟨e, rfl | ⟨b, h1, h2, h3, h4, he, h5⟩⟩
    · rw [e]; exact .none_id rfl
    · rw [e]; exact .none_id (by cases x <;> simp_all [AV.pers, AV.id?])
    · rw [e]; exact .none_id rfl
    · rw [e]
      obtain ⟨g1, g2⟩ := hb b he h2 h5 h4 (hok x hx b h1).1
      intro c hc
      rw [h1] at hc; cases hc
      exact ⟨g1, fun k xs hk => absurd hk (g2 k xs)⟩

/-- An iterator's contract: called with a yield, it asks for rounds at the items in their order, and stops when a round says so. -/
def IterSpec (P : Program) (gl : Nat → Option (List AV)) (f : Nat) (caps : List AV) (items : List (Bool × List AV)) : Prop :=
  EntersP P f ∧ (∀ it ∈ items, it.2.all AV.pers = true) ∧
  ∀ (w : World) (imm : Nat → Prop) (us : List Value) (l m : Nat) (J : Option Nat → (Nat → Prop) → (Nat → Prop) → World → Prop),
    (∀ x, imm x → x < w.heap.size) → GInv gl w imm → F2 (PR w imm) caps us → (∀ g, JStable (J g)) →
    (∀ (k : Nat) (it : Bool × List AV) (imm1 Z1 : Nat → Prop) (W1 : World) (v : Value), items[k]? = some it → J (some k) imm1 Z1 W1 → (∀ x, imm1 x → x < W1.heap.size) → (∀ x, Z1 x → x < W1.heap.size ∧ ¬ imm1 x) →
      (∃ us, F2 (PR W1 imm1) it.2 us ∧ (if it.1 = true then v = .agg us.toArray else us = [v])) →
      YieldAt Fence.wide m P l #[v] W1 fun e W' => ∃ (t : Bool) (imm' : Nat → Prop), e = .returned (.bool t) ∧ J (if t = true then some (k + 1) else none) imm' Z1 W' ∧ (∀ x, imm1 x → imm' x) ∧
        (∀ x, imm' x → x < W'.heap.size ∧ ¬ Z1 x) ∧ Ext (fun x => ¬ imm1 x ∧ ¬ Z1 x) W1 W') →
    J (some 0) imm (fun _ => False) w →
    CallsIn Fence.wide 0 P f (#[.func (.yield l) #[] #[]] ++ us.toArray) w fun e w' => (∃ v, e = .returned v) ∧ ∃ imm', J (some items.length) imm' (fun _ => False) w' ∨ J none imm' (fun _ => False) w'
end Go.Proofs.YtlbafapmhjfobaaGreatDoor
namespace Go.Proofs.YtlbafapmhjfobaaGreatDoor

/-- the code; ahead of a region whose number is in fz there is a stop ('frz') -/
def comp (P : Program) (nt : Nat) (fz : List Nat) : Code → Option ACode
  | .skip => some .skip
  | .region id ops draw => (compOps P nt ops).bind fun os =>
    if draw && !statOk os then none else if fz.contains id then some (.frz [] (.reg draw os)) else some (.reg draw os)
  | .seq a b => (comp P nt fz a).bind fun a' => (comp P nt fz b).map fun b' => .seq a' b'
  | .cond x a b => (opdOf x).bind fun x => (comp P nt fz a).bind fun a => (comp P nt fz b).map fun b => .cond x a b
  | .block id b => (comp P nt fz b).map (.block id)
  | .loop b => (comp P nt fz b).map .loop
  | .exit id => some (.exit id)
  | .label _ => some .skip
  | .scope b => (comp P nt fz b).map .scope
  | .ret => some .ret
  | .rangeFunc g ps asg body => match ps.toList with
    | [p] => if p < nt then (opdOf g).bind fun x => (comp P nt fz asg).bind fun a => (comp P nt fz body).map fun b => .rng x [p] a b else none
    | _ => none
  | _ => none
def noRng : ACode → Bool
  | .seq a b | .cond _ a b => noRng a && noRng b
  | .block _ b | .loop b | .scope b | .frz _ b | .stop b => noRng b
  | .rng .. => false
  | _ => true

inductive Ex where
  | normal
  | exit (id : Nat)
  | ret

/-- a state may be looked at as another one -/
def Weak (gl : Nat → Option (List AV)) (st st' : St) : Prop :=
  ∀ (E : Env) (ρ : Nat → Cn) (imm : Nat → Prop) (a : Act) (w : World), E.gl = gl → Real E (fun b => b < st.nx) st.sl st.hp ρ imm a w →
    ∃ ρ' imm', Real E (fun b => b < st'.nx) st'.sl st'.hp ρ' imm' a w

def thenK (X : St → Prop) (K : Ex → St → Prop) : Ex → St → Prop
  | .normal, st => X st
  | .exit i, st => K (.exit i) st
  | .ret, st => K .ret st
def blockK (id : Nat) (K : Ex → St → Prop) : Ex → St → Prop
  | .normal, st => K .normal st
  | .exit i, st => if i = id then K .normal st else K (.exit i) st
  | .ret, st => K .ret st

def asgK (X : St → Prop) : Ex → St → Prop
  | .normal, st => X st
  | _, _ => False
/-- behind a round: the slots are those of the loop's beginning -/
def roundK (gl : Nat → Option (List AV)) (K : Ex → St → Prop) (R : Prop) (S' : St) (sl : Nat → SV) : Ex → St → Prop
  | .normal, st => R ∧ Weak gl ⟨sl, st.hp, st.nx⟩ S'
  | .exit i, st => K (.exit i) ⟨sl, st.hp, st.nx⟩
  | .ret, st => K .ret ⟨sl, st.hp, st.nx⟩
/-- a loop over an iterator: S k: the state when k items have come; R k: it may come to that -/
def RngW (P : Program) (gl : Nat → Option (List AV)) (x : Opd) (p : Nat) (nr : Bool) (wa wb : St → (Ex → St → Prop) → Prop) (st : St) (K : Ex → St → Prop) : Prop :=
  nr = true ∧ ∃ (f : Nat) (caps : List AV) (items : List (Bool × List AV)) (R : Nat → Prop) (S : Nat → St), ev gl (S 0).sl x = .c false [.fn f [] caps] ∧ IterSpec P gl f caps items ∧ (R 0 ∧ Weak gl st (S 0)) ∧
    (∀ k it, items[k]? = some it → R k → wa ⟨putS (strip (S k).hp (S k).sl) (some p) (.c it.1 it.2), (S k).hp, (S k).nx⟩ (asgK fun st => wb st (roundK gl K (R (k + 1)) (S (k + 1)) (strip (S k).hp (S k).sl)))) ∧ (R items.length → K .normal (S items.length))

/-- a loop: the least set of states that holds every state whose round ends in it, or leaves the loop rightly -/
def LoopW (gl : Nat → Option (List AV)) (wb : St → (Ex → St → Prop) → Prop) (st : St) (K : Ex → St → Prop) : Prop :=
  ∀ X : St → Prop, (∀ s s', Weak gl s s' → wb s' (thenK X K) → X s) → X st
def W (P : Program) (gl : Nat → Option (List AV)) : ACode → St → (Ex → St → Prop) → Prop
  | .skip, st, K => K .normal st
  | .reg true ops, ⟨sl, hp, nx⟩, K => evD P gl (ancs ops) ops 0 [] sl hp nx (K .normal)
  | .reg false ops, ⟨sl, hp, nx⟩, K => evT P gl ops sl hp nx (K .normal)
  | .seq a b, st, K => W P gl a st (thenK (fun st => W P gl b st K) K)
  | .cond x a b, ⟨sl, hp, nx⟩, K => match ev gl sl x with
    | .c false [.v (.bool t)] => (t = true → W P gl a ⟨sl, hp, nx⟩ K) ∧ (t = false → W P gl b ⟨sl, hp, nx⟩ K)
    | _ => False
  | .block id b, st, K => W P gl b st (blockK id K)
  | .loop b, st, K => LoopW gl (W P gl b) st K
  | .exit id, st, K => K (.exit id) st
  | .ret, st, K => K .ret st
  | .scope b, st, K => W P gl b st K
  | .frz _ b, st, K => ∃ st', Weak gl st st' ∧ W P gl b st' K
  | .rng x [p] a b, st, K => RngW P gl x p (noRng a && noRng b) (W P gl a) (W P gl b) st K
  | _, _, _ => False

theorem thenK_mono {X X' : St → Prop} {K K' : Ex → St → Prop} (h : ∀ st, X st → X' st) (hk : ∀ e st, K e st → K' e st) : ∀ e st, thenK X K e st → thenK X' K' e st := by
  intro e st hh
  cases e <;> first | exact h _ hh | exact hk _ _ hh
theorem evT_mono {P : Program} {gl : Nat → Option (List AV)} {Q Q' : St → Prop} (h : ∀ st, Q st → Q' st) : ∀ (ops : List AOper) (sl : Nat → SV) (hp : Nat → Option HE) (nx : Nat), evT P gl ops sl hp nx Q → evT P gl ops sl hp nx Q'
  | [], _, _, _, hh => h _ hh
  | o :: r, sl, hp, nx, hh => by
    rw [evT, forceN_eq] at hh ⊢
    obtain ⟨out, u, h1, h2⟩ := stepS_pt hh
    rw [forceS_eq, forceU_eq] at h1
    exact h2 _ (by rw [forceS_eq, forceU_eq]; exact evT_mono h r _ _ _ h1)
theorem evD_mono {P : Program} {gl : Nat → Option (List AV)} {anc : List Nat} {Q Q' : St → Prop} (h : ∀ st, Q st → Q' st) : ∀ (ops : List AOper) (k : Nat) (acc : List Ent) (sl : Nat → SV) (hp : Nat → Option HE) (nx : Nat), evD P gl anc ops k acc sl hp nx Q → evD P gl anc ops k acc sl hp nx Q'
  | [], k, acc, _, _, _, hh => ⟨hh.1, h _ hh.2⟩
  | o :: r, k, acc, sl, hp, nx, hh => by
    rw [evD, forceN_eq] at hh ⊢
    obtain ⟨out, u, h1, h2⟩ := stepS_pt hh
    rw [forceS_eq, forceU_eq, forceNs_eq] at h1
    exact h2 _ (by rw [forceS_eq, forceU_eq, forceNs_eq]; exact evD_mono h r _ _ _ _ _ h1)
theorem W_mono {P : Program} {gl : Nat → Option (List AV)} : ∀ (c : ACode) (st : St) (K K' : Ex → St → Prop), (∀ e st, K e st → K' e st) → W P gl c st K → W P gl c st K' := by
  intro c
  induction c with
  | skip => exact fun st K K' h hh => h _ _ hh
  | reg draw ops =>
    intro st K K' h hh
    cases draw
    · exact evT_mono (h _) ops _ _ _ hh
    · exact evD_mono (h _) ops _ _ _ _ _ hh
  | seq a b iha ihb => exact fun st K K' h hh => iha st _ _ (thenK_mono (fun st => ihb st K K' h) h) hh
  | cond x a b iha ihb =>
    intro st K K' h hh
    rw [W] at hh ⊢
    split at hh
    · exact ⟨fun ht => iha st K K' h (hh.1 ht), fun ht => ihb st K K' h (hh.2 ht)⟩
    · exact hh.elim
  | block id b ih =>
    intro st K K' h hh
    refine ih st _ _ (fun e st hk => ?_) hh
    cases e with
    | normal => exact h _ _ hk
    | exit i =>
      simp only [blockK] at hk ⊢
      split
      · rename_i e; rw [if_pos e] at hk; exact h _ _ hk
      · rename_i e; rw [if_neg e] at hk; exact h _ _ hk
    | ret => exact h _ _ hk
  | loop b ih => exact fun st K K' h hh X hX => hh X fun s s' hw hb => hX s s' hw (ih s' _ _ (thenK_mono (fun _ hx => hx) h) hb)
  | exit id => exact fun st K K' h hh => h _ _ hh
  | ret => exact fun st K K' h hh => h _ _ hh
  | scope b ih => exact fun st K K' h hh => ih st K K' h hh
  | frz l b ih =>
    rintro st K K' h ⟨st', h1, h2⟩
    exact ⟨st', h1, ih st' K K' h h2⟩
  | stop b => exact fun st K K' h hh => hh.elim
  | rng x ps a b iha ihb =>
    intro st K K' h hh
    match ps, hh with
    | [], hh => exact hh.elim
    | _ :: _ :: _, hh => exact hh.elim
    | [p], hh =>
      obtain ⟨h1, f, caps, items, R, S, h2, h3, h4, h5, h6⟩ := hh
      refine ⟨h1, f, caps, items, R, S, h2, h3, h4, fun k it hk hr => iha _ _ _ (fun e st hx => ?_) (h5 k it hk hr), fun hr => h _ _ (h6 hr)⟩
      cases e with
      | normal =>
        refine ihb _ _ _ (fun e st hx => ?_) hx
        cases e with
        | normal => exact hx
        | exit i => exact h _ _ hx
        | ret => exact h _ _ hx
      | exit i => exact hx
      | ret => exact hx

def PostX (E : Env) (K : Ex → St → Prop) : Exit → Act → World → Prop
  | .normal, a, w => At E (K .normal) a w
  | .exit id, a, w => At E (K (.exit id)) a w
  | .ret, a, w => At E (K .ret) a w
  | _, _, _ => False

section
variable {F : Fence} {n : Nat} {P : Program} {b : Frame} {a : Act} {k : List Item} {cs : List Frame} {w : World} {Q : Exit → Act → World → Prop}
theorem stepR_scope {c : Code} : step P (lone (b.atR a (.code (.scope c) :: k)) cs w) = .next (lone (b.atR a (.code c :: .inScope c :: k)) cs w) :=
  step_lone_go (by simp [stepG, stepG.exec, Frame.atR])
theorem stepR_inScope {c : Code} : step P (lone (b.atR a (.inScope c :: k)) cs w) = .next (lone (b.atR a k) cs w) :=
  step_lone_go (by simp [stepG, stepG.exec, Frame.atR])
theorem wpIn_scope {c : Code} (h : c.wpIn F n P (Exit.noGoto Q) a w) : (Code.scope c).wpIn F n P Q a w := by
  intro b k cs hro hb hr
  have h0 : (lone (b.atR a (.code (.scope c) :: k)) cs w).fenced P F := fenced_calm hb hr rfl
  obtain ⟨e, a₁, w₁, hq, harr⟩ := h b (.inScope c :: k) cs hro hb hr
  cases e with
  | normal => exact ⟨.normal, a₁, w₁, hq, .head h0 stepR_scope (StepsIn.trans harr (.one (fenced_calm hb hr rfl) stepR_inScope))⟩
  | exit id =>
    have hx : exitTo id (.inScope c :: k) = exitTo id k := by simp [exitTo]
    exact ⟨.exit id, a₁, w₁, hq, fun k' hk => .head h0 stepR_scope (harr.1 k' (by rw [hx]; exact hk)),
      fun hr' hk => let ⟨k₁, h1, h2⟩ := harr.2 hr' (by rw [hx]; exact hk); ⟨k₁, h1, .head h0 stepR_scope h2⟩⟩
  | goto l => exact hq.elim
  | ret => exact ⟨_, a₁, w₁, hq, .of_steps (.one h0 stepR_scope) harr⟩
  | panic ch => exact ⟨_, a₁, w₁, hq, .of_steps (.one h0 stepR_scope) harr⟩
  | outgrown => exact ⟨_, a₁, w₁, hq, .of_steps (.one h0 stepR_scope) harr⟩
end

/-- a loop, from the beginning of a round -/
def LoopAt (F : Fence) (n : Nat) (P : Program) (c : Code) (Q : Exit → Act → World → Prop) (a : Act) (w : World) : Prop :=
  ∀ (b : Frame) (k : List Item) (cs : List Frame), b.roundOf = F.round → F.fn b.fn → F.room (cs.length + 1 + n) →
    ∃ e a' w', Q e a' w' ∧ ArrivesIn (Machine.fenced P F) P (lone (b.atR a (.code c :: .inLoop c :: k)) cs w) b k cs e a' w'
theorem LoopAt.round {F : Fence} {n : Nat} {P : Program} {c : Code} {Q : Exit → Act → World → Prop} {a : Act} {w : World} (h : c.wpIn F n P (Exit.then (LoopAt F n P c Q) Q) a w) : LoopAt F n P c Q a w := by
  intro b k cs hro hb hr
  obtain ⟨e, a₁, w₁, hq, harr⟩ := h b (.inLoop c :: k) cs hro hb hr
  cases e with
  | normal =>
    obtain ⟨e₂, a₂, w₂, hq₂, harr₂⟩ := hq b k cs hro hb hr
    exact ⟨e₂, a₂, w₂, hq₂, .of_steps (StepsIn.trans harr (.one (fenced_calm hb hr rfl) stepR_inLoop)) harr₂⟩
  | exit id => exact ⟨_, a₁, w₁, hq, .pass (x := .inLoop c) rfl (fun _ _ => .inl (by simp)) harr⟩
  | goto l => exact ⟨_, a₁, w₁, hq, .pass (x := .inLoop c) rfl (fun _ _ => .inl (by simp)) harr⟩
  | ret => exact ⟨_, a₁, w₁, hq, .pass (x := .inLoop c) rfl (fun _ _ => .inl (by simp)) harr⟩
  | panic ch => exact ⟨_, a₁, w₁, hq, .pass (x := .inLoop c) rfl (fun _ _ => .inl (by simp)) harr⟩
  | outgrown => exact ⟨_, a₁, w₁, hq, .pass (x := .inLoop c) rfl (fun _ _ => .inl (by simp)) harr⟩
theorem LoopAt.loop {F : Fence} {n : Nat} {P : Program} {c : Code} {Q : Exit → Act → World → Prop} {a : Act} {w : World} (h : LoopAt F n P c Q a w) : (Code.loop c).wpIn F n P Q a w := by
  intro b k cs hro hb hr
  obtain ⟨e, a', w', hq, harr⟩ := h b k cs hro hb hr
  exact ⟨e, a', w', hq, .of_steps (.one (fenced_calm hb hr rfl) stepR_loop) harr⟩

end Go.Proofs.YtlbafapmhjfobaaGreatDoor
