/-
  The framework (2 of 4): that each abstract operation tells the truth about the operation of the model.
-/
import Derived.Test.YtlbafapmhjfobaaGreatDoorAbs1
set_option linter.unusedVariables false
set_option linter.unusedSimpArgs false
namespace Go.Proofs.YtlbafapmhjfobaaGreatDoor
variable {P : Program} {E : Env} {F : Fence} {n : Nat} {A : Nat → Prop} {sl : Nat → SV} {hp : Nat → Option HE} {ρ : Nat → Cn} {imm : Nat → Prop} {a : Act} {w : World} {j : Nat}
  {K : SV → List (Nat × Option HE) → Prop} {Q : Exit → Act → World → Prop} {o : Oper}

theorem flat_take {k : Nat} {xs : List (List AV)} (h3 : ∀ x ∈ xs, x.length = k) (m : Nat) : (xs.take m).flatten = xs.flatten.take (m * k) := by
  induction xs generalizing m with
  | nil => simp
  | cons x xs ih =>
    cases m with
    | zero => simp
    | succ m =>
      have hx := h3 x (by simp)
      rw [List.take_succ_cons, List.flatten_cons, List.flatten_cons, ih (fun x hx => h3 x (by simp [hx])), Nat.succ_mul, Nat.add_comm, ← hx, List.take_length_add_append]
theorem flat_drop {k : Nat} {xs : List (List AV)} (h3 : ∀ x ∈ xs, x.length = k) (m : Nat) : (xs.drop m).flatten = xs.flatten.drop (m * k) := by
  induction xs generalizing m with
  | nil => simp
  | cons x xs ih =>
    cases m with
    | zero => simp
    | succ m =>
      have hx := h3 x (by simp)
      rw [List.drop_succ_cons, List.flatten_cons, ih (fun x hx => h3 x (by simp [hx])), Nat.succ_mul, Nat.add_comm, ← hx, List.drop_length_add_append]

theorem PR.mkli {w : World} {imm : Nat → Prop} {k len cap blk off : Nat} {xs : List (List AV)} {us : List Value} (h1 : xs.length = len) (h2 : len ≤ cap) (h3 : ∀ x ∈ xs, x.length = k)
    (h5 : ∀ i, i < us.length → w.cell? ⟨blk, off + i, none⟩ = us[i]?) (h6 : xs ≠ [] → imm blk) (h : F2 (PR w imm) xs.flatten us) : PR w imm (.li k xs) (.slice (some ⟨blk, off, none⟩) len cap) :=
  .li us h1 h2 h3 h.length.symm h5 h6 (fun _ _ _ hx hu => h.get hx hu)

/-- a part of a list -/
theorem PR.li_sub {w : World} {imm : Nat → Prop} {k cap blk off : Nat} {xs : List (List AV)} (h : PR w imm (.li k xs) (.slice (some ⟨blk, off, none⟩) xs.length cap)) {l m : Nat} (hlm : l ≤ m) (hm : m ≤ xs.length) :
    PR w imm (.li k ((xs.take m).drop l)) (.slice (some (if cap = l then ⟨blk, off, none⟩ else ⟨blk, off + l * k, none⟩)) (m - l) (cap - l)) := by
  rcases h.li_inv with ⟨_, e⟩ | ⟨blk', off', cap', us, e, hcap, h3, h5, h6, h7⟩
  · simp at e
  · simp only [Value.slice.injEq, Option.some.injEq, Addr.mk.injEq] at e
    obtain ⟨⟨rfl, rfl, _⟩, _, rfl⟩ := e
    have hul := h7.length
    rw [row_len h3] at hul
    have hlen : ((xs.take m).drop l).length = m - l := by simp; omega
    have h3' : ∀ x ∈ (xs.take m).drop l, x.length = k := fun x hx => h3 x (List.mem_of_mem_take (List.mem_of_mem_drop hx))
    by_cases hc : cap = l
    · rw [if_pos hc]
      have : (xs.take m).drop l = [] := List.length_eq_zero_iff.1 (by omega)
      rw [this]
      refine .mkli (us := []) (by simp; omega) (by omega) (by simp) (by simp) (by simp) trivial
    · rw [if_neg hc]
      have hmk : m * k ≤ us.length := by rw [← hul]; exact Nat.mul_le_mul_right _ hm
      refine .mkli (us := (us.take (m * k)).drop (l * k)) hlen (by omega) h3' (fun i hi => ?_) (fun hne => h6 (fun e => hne (by rw [e]; simp))) ?_
      · simp only [List.length_drop, List.length_take] at hi
        rw [List.getElem?_drop, List.getElem?_take, if_pos (by omega), ← h5 _ (by omega), Nat.add_assoc]
      · rw [flat_drop (k := k) (fun x hx => h3 x (List.mem_of_mem_take hx)), flat_take h3]
        exact F2.drop _ (F2.take _ h7)

theorem run_sliceBound {k : IntKind} {i : Int} {y : Nat} (c : BoundsCode) (h0 : 0 ≤ i) (h1 : i ≤ (y : Int)) : (Instr.sliceBound (.int k i) y c).run P w = .ok i.toNat w := by
  simp only [Instr.sliceBound, asIntOf, Sem.run_bind, Sem.run_pure, Result.andThen_ok, if_pos (⟨h0, h1⟩ : 0 ≤ i ∧ i ≤ (y : Int))]

theorem snd_slice {t e : TypeId} {x : Operand} {lo hi : Option Operand} {x' : Opd} {lo' hi' : Option Opd} {k : Nat} (ho : o.op = .slice t x lo hi none) (hu : P.underlying t = some (.slice e)) (hk : szOf P e = some k) (hx : opdOf x = some x')
    (hlo : lo = none ∧ lo' = none ∨ ∃ l l', lo = some l ∧ lo' = some l' ∧ opdOf l = some l') (hhi : hi = none ∧ hi' = none ∨ ∃ l l', hi = some l ∧ hi' = some l' ∧ opdOf l = some l')
    (hF : ∀ f, F.fn f) (h : Real E A sl hp ρ imm a w) (hd : dstOk E o.dst)
    (hs : opSem P E.gl (ev E.gl sl) hp j (.slice k x' lo' hi') K) : o.wpIn F n P a w (Post E A sl hp o.dst j K) Q := by
  simp only [opSem] at hs
  split at hs
  · rename_i k' xs he
    obtain ⟨h1, _⟩ := ev1 h hx he
    have h1 : PR w imm (.li k' xs) (a.eval x) := h1
    split at hs
    · rename_i kl l kh m hel heh
      obtain ⟨rfl, hb, hkk⟩ := hs
      have hrunb : ∀ cap, xs.length ≤ cap → (Instr.sliceBounds true xs.length cap (lo.map a.eval) (hi.map a.eval) none).run P w = .ok (l.toNat, m.toNat, cap) w := by
        intro cap hcap
        rcases hlo with ⟨rfl, rfl⟩ | ⟨z, z', rfl, rfl, hz⟩ <;> rcases hhi with ⟨rfl, rfl⟩ | ⟨y, y', rfl, rfl, hy⟩
        · have hl0 : l = 0 := by simp at hel; omega
          have hm0 : m = xs.length := by simp at heh; omega
          simp [Instr.sliceBounds, hl0, hm0]
        · have hl0 : l = 0 := by simp at hel; omega
          have hv := run_sliceBound (P := P) (w := w) (k := kh) .sliceAcap (show 0 ≤ m by omega) (show m ≤ (cap : Int) by omega)
          simp [Instr.sliceBounds, hl0, evv1 h hy heh, hv]
        · have hm0 : m = xs.length := by simp at heh; omega
          have hv := run_sliceBound (P := P) (w := w) (k := kl) .sliceB hb.1 (show l ≤ (xs.length : Int) by omega)
          simp [Instr.sliceBounds, hm0, evv1 h hz hel, hv]
        · have hv := run_sliceBound (P := P) (w := w) (k := kh) .sliceAcap (show 0 ≤ m by omega) (show m ≤ (cap : Int) by omega)
          have hv' := run_sliceBound (P := P) (w := w) (k := kl) .sliceB hb.1 (show l ≤ (m.toNat : Int) by omega)
          simp [Instr.sliceBounds, evv1 h hz hel, evv1 h hy heh, hv, hv']
      rcases h1.li_inv with ⟨rfl, e0⟩ | ⟨blk, off, cap, us, e0, hcap, h3, h5, h6, h7⟩
      · have hl0 : l.toNat = 0 := by simp at hb; omega
        have hm0 : m.toNat = 0 := by simp at hb; omega
        refine snd_pure (by simp [ho]) hF h hd (v := .slice none 0 0) ?_ (out := .c false [.li k' (([] : List (List AV)).take m.toNat |>.drop l.toNat)]) (.mk1 (.of_PR (by simp; exact .linil))) (okC1 (.none_id rfl)) hkk
        have := hrunb 0 (by simp)
        simp only [List.length_nil] at this
        simp only [execOp, ho, e0, Sem.run_bind, Option.map_none, Instr.sliceAt, run_under P w hu, Result.andThen_ok, Instr.slice, this, run_size P w hk, Sem.run_pure, hl0, hm0]
        rfl
      · rw [e0] at h1
        have hsub := h1.li_sub (l := l.toNat) (m := m.toNat) (by omega) (by omega)
        refine snd_pure (by simp [ho]) hF h hd ?_ (.mk1 (.of_PR hsub)) (okC1 (.none_id rfl)) hkk
        simp only [execOp, ho, e0, Sem.run_bind, Option.map_none, Instr.sliceAt, run_under P w hu, Result.andThen_ok, Instr.slice, hrunb cap hcap, run_size P w hk, Sem.run_pure, Option.map_some, addr_add]
        split <;> rfl
    · exact hs.elim
  · rename_i b q he
    obtain ⟨h1, h2⟩ := ev1 h hx he
    split at hs
    · rename_i k' xs hb0
      split at hs
      · rename_i kl l kh m hel heh
        obtain ⟨⟨rfl, hq⟩, hb, hkk⟩ := hs
        obtain ⟨g1, g2, g3, g4⟩ := h.heap b _ hb0
        have hv := h1.2 (by rw [hq, g1])
        have hrunb : ∀ cap, xs.length ≤ cap → (Instr.sliceBounds true xs.length cap (lo.map a.eval) (hi.map a.eval) none).run P w = .ok (l.toNat, m.toNat, cap) w := by
          intro cap hcap
          rcases hlo with ⟨rfl, rfl⟩ | ⟨z, z', rfl, rfl, hz⟩ <;> rcases hhi with ⟨rfl, rfl⟩ | ⟨y, y', rfl, rfl, hy⟩
          · have hl0 : l = 0 := by simp at hel; omega
            have hm0 : m = xs.length := by simp at heh; omega
            simp [Instr.sliceBounds, hl0, hm0]
          · have hl0 : l = 0 := by simp at hel; omega
            have hv := run_sliceBound (P := P) (w := w) (k := kh) .sliceAcap (show 0 ≤ m by omega) (show m ≤ (cap : Int) by omega)
            simp [Instr.sliceBounds, hl0, evv1 h hy heh, hv]
          · have hm0 : m = xs.length := by simp at heh; omega
            have hv := run_sliceBound (P := P) (w := w) (k := kl) .sliceB hb.1 (show l ≤ (xs.length : Int) by omega)
            simp [Instr.sliceBounds, hm0, evv1 h hz hel, hv]
          · have hv := run_sliceBound (P := P) (w := w) (k := kh) .sliceAcap (show 0 ≤ m by omega) (show m ≤ (cap : Int) by omega)
            have hv' := run_sliceBound (P := P) (w := w) (k := kl) .sliceB hb.1 (show l ≤ (m.toNat : Int) by omega)
            simp [Instr.sliceBounds, evv1 h hz hel, evv1 h hy heh, hv, hv']
        have hok : okC A hp (.part b q l.toNat m.toNat) := by
          intro c hc
          simp only [AV.id?, Option.some.injEq] at hc
          subst hc
          refine ⟨(h.wf.idh b _ hb0).1, fun k2 xs2 hb2 => ?_⟩
          rw [hb0] at hb2
          cases hb2
          exact Nat.le_of_eq hq
        rcases g4 with ⟨g4, g5⟩ | ⟨cap, us, rest, e, g5, g6, g7, g8, g9⟩
        · subst g4
          have hl0 : l.toNat = 0 := by simp at hb; omega
          have hm0 : m.toNat = 0 := by simp at hb; omega
          rw [g5] at hv
          refine snd_pure (by simp [ho]) hF h hd (v := .slice none 0 0) ?_ (out := .c false [.part b q l.toNat m.toNat]) (.mk1 ⟨rfl, fun _ => by rw [g5]; rfl⟩) (okC1 hok) hkk
          have := hrunb 0 (by simp)
          simp only [List.length_nil] at this
          simp only [execOp, ho, hv, Sem.run_bind, Option.map_none, Instr.sliceAt, run_under P w hu, Result.andThen_ok, Instr.slice, this, run_size P w hk, Sem.run_pure, hl0, hm0]
          rfl
        · rw [g5] at hv
          refine snd_pure (by simp [ho]) hF h hd (v := subV (ρ b).val (ρ b).k l.toNat m.toNat) ?_ (out := .c false [.part b q l.toNat m.toNat]) (.mk1 ⟨by rw [g5]; rfl, fun _ => rfl⟩) (okC1 hok) hkk
          rw [g5, g2]
          simp only [execOp, ho, hv, Sem.run_bind, Option.map_none, Instr.sliceAt, run_under P w hu, Result.andThen_ok, Instr.slice, hrunb cap g6, run_size P w hk, Sem.run_pure, Option.map_some, addr_add, subV]
          split <;> rfl
      · exact hs.elim
    · exact hs.elim
  · exact hs.elim

theorem chunks_flat {k : Nat} : ∀ (n : Nat) (cs : List AV), n * k ≤ cs.length → (chunks k n cs).flatten = cs.take (n * k) ∧ (chunks k n cs).length = n ∧ ∀ x ∈ chunks k n cs, x.length = k
  | 0, cs, _ => by simp [chunks]
  | n + 1, cs, h => by
    rw [Nat.succ_mul] at h
    obtain ⟨h1, h2, h3⟩ := chunks_flat (k := k) n (cs.drop k) (by simp; omega)
    refine ⟨?_, by simp [chunks, h2], ?_⟩
    · rw [chunks, List.flatten_cons, h1, Nat.succ_mul, Nat.add_comm, List.take_add]
    · intro x hx
      rcases List.mem_cons.1 hx with rfl | hx
      · simp; omega
      · exact h3 x hx

theorem snd_slarr {t e : TypeId} {x : Operand} {x' : Opd} {k m : Nat} (ho : o.op = .slice t x none none none) (hu : P.underlying t = some (.array m e)) (hk : szOf P e = some k) (hx : opdOf x = some x')
    (hF : ∀ f, F.fn f) (h : Real E A sl hp ρ imm a w) (hd : dstOk E o.dst)
    (hs : opSem P E.gl (ev E.gl sl) hp j (.slarr m k x') K) : o.wpIn F n P a w (Post E A sl hp o.dst j K) Q := by
  simp only [opSem] at hs
  split at hs
  · rename_i cs he
    obtain ⟨hl, hkk⟩ := hs
    obtain ⟨h1, _⟩ := ev1 h hx he
    have h1 : PR w imm (.ref cs) (a.eval x) := h1
    obtain ⟨blk, off, us, e0, hul, hc, hi, hf⟩ := h1.ref_inv
    obtain ⟨c1, c2, c3⟩ := chunks_flat (k := k) m cs hl
    refine snd_pure (by simp [ho]) hF h hd (v := .slice (some ⟨blk, off, none⟩) m m) ?_ (.mk1 (.of_PR (.mkli (us := us.take (m * k)) c2 (Nat.le_refl _) c3 (fun i hi => ?_) (fun _ => hi) (by rw [c1]; exact F2.take _ hf)))) (okC1 (.none_id rfl)) hkk
    · simp only [execOp, ho, e0, Sem.run_bind, Option.map_none, Instr.sliceAt, run_under P w hu, Result.andThen_ok, Instr.sureAddr, Sem.run_pure, Instr.sliceBounds, run_size P w hk, addr_add, Nat.zero_mul, Nat.add_zero, Nat.sub_zero]
      split <;> rfl
    · simp only [List.length_take] at hi
      rw [hc i (by omega), List.getElem?_take, if_pos (by omega)]
  · exact hs.elim

theorem snd_len {t e : TypeId} {x : Operand} {x' : Opd} {ats : Array TypeId} (ho : o.op = .call { callee := .builtin .len, args := #[x], argTypes := ats }) (hat : ats[0]? = some t) (hue : P.underlying t = some (.slice e)) (hx : opdOf x = some x')
    (hF : ∀ f, F.fn f) (h : Real E A sl hp ρ imm a w) (hd : dstOk E o.dst)
    (hs : opSem P E.gl (ev E.gl sl) hp j (.len x') K) : o.wpIn F n P a w (Post E A sl hp o.dst j K) Q := by
  have key : ∀ {p : Option Addr} {m cap : Nat}, a.eval x = .slice p m cap → K (.c false [.i m]) [] → o.wpIn F n P a w (Post E A sl hp o.dst j K) Q := by
    intro p m cap hv hk
    refine snd_pure (by simp [ho]) hF h hd (v := .int .i64 m) ?_ (RS_mkv rfl) okC_v1 hk
    simp [execOp, ho, resolve, invoke, builtin, Builtin.len_, hat, hv, run_under P w hue, goInt]
  simp only [opSem] at hs
  split at hs
  · rename_i he
    exact key (evv1 h hx he) (by simpa using hs)
  · rename_i k xs he
    obtain ⟨h1, _⟩ := ev1 h hx he
    have h1 : PR w imm (.li k xs) (a.eval x) := h1
    rcases h1.li_inv with ⟨rfl, e0⟩ | ⟨blk, off, cap, us, e0, _⟩
    · exact key e0 (by simpa using hs)
    · exact key e0 hs
  · rename_i b q he
    obtain ⟨h1, _⟩ := ev1 h hx he
    split at hs
    · rename_i k xs hb
      obtain ⟨hq, hk⟩ := hs
      obtain ⟨g1, g2, g3, g4⟩ := h.heap b _ hb
      have hv := h1.2 (by rw [hq, g1])
      rcases g4 with ⟨g4, g5⟩ | ⟨cap, us, rest, e, g5, _⟩
      · rw [g5] at hv
        exact key hv (by rw [hq, g4] at hk; simpa using hk)
      · rw [g5] at hv
        exact key hv (by rw [← hq]; exact hk)
    · exact hs.elim
  · rename_i b q lo hi he
    obtain ⟨h1, _⟩ := ev1 h hx he
    split at hs
    · rename_i k xs hb
      obtain ⟨⟨hq, hle⟩, hk⟩ := hs
      obtain ⟨g1, g2, g3, g4⟩ := h.heap b _ hb
      have hv := h1.2 (by rw [hq, g1])
      rcases g4 with ⟨g4, g5⟩ | ⟨cap, us, rest, e, g5, _⟩
      · rw [g5] at hv
        exact key hv (by subst g4; simp at hle; subst hle; simpa using hk)
      · rw [g5] at hv
        exact key hv hk
    · exact hs.elim
  · exact hs.elim

theorem snd_lens {t : TypeId} {x : Operand} {x' : Opd} {ats : Array TypeId} (ho : o.op = .call { callee := .builtin .len, args := #[x], argTypes := ats }) (hat : ats[0]? = some t) (hu : P.underlying t = some .string) (hx : opdOf x = some x')
    (hF : ∀ f, F.fn f) (h : Real E A sl hp ρ imm a w) (hd : dstOk E o.dst)
    (hs : opSem P E.gl (ev E.gl sl) hp j (.lens x') K) : o.wpIn F n P a w (Post E A sl hp o.dst j K) Q := by
  simp only [opSem] at hs
  split at hs
  · rename_i s he
    have hv := evv1 h hx he
    refine snd_pure (by simp [ho]) hF h hd (v := .int .i64 s.size) ?_ (RS_mkv rfl) okC_v1 hs
    simp [execOp, ho, resolve, invoke, builtin, Builtin.len_, hat, hv, run_under P w hu, goInt]
  · exact hs.elim
end Go.Proofs.YtlbafapmhjfobaaGreatDoor
namespace Go.Proofs.YtlbafapmhjfobaaGreatDoor
variable {P : Program} {E : Env} {F : Fence} {n : Nat} {A : Nat → Prop} {sl : Nat → SV} {hp : Nat → Option HE} {ρ : Nat → Cn} {imm : Nat → Prop} {a : Act} {w : World} {j : Nat}
  {K : SV → List (Nat × Option HE) → Prop} {Q : Exit → Act → World → Prop} {o : Oper}

theorem snd_nilck {x : Operand} {x' : Opd} (ho : o.op = .nilCheck x) (hx : opdOf x = some x') (hF : ∀ f, F.fn f) (h : Real E A sl hp ρ imm a w) (hd : dstOk E o.dst)
    (hs : opSem P E.gl (ev E.gl sl) hp j (.nilck x') K) : o.wpIn F n P a w (Post E A sl hp o.dst j K) Q := by
  have key : ∀ {out : AV} {p : Addr}, a.eval x = .pointer (some p) → RA w imm ρ out (a.eval x) → okC A hp out → K (.c false [out]) [] → o.wpIn F n P a w (Post E A sl hp o.dst j K) Q := by
    intro out p hv hr hok hk
    exact snd_pure (by simp [ho]) hF h hd (by simp [execOp, ho, hv]) (.mk1 (hv ▸ hr)) (okC1 hok) hk
  simp only [opSem] at hs
  split at hs
  · rename_i b off he
    obtain ⟨h1, h2⟩ := ev1 h hx he
    exact key h1 h1 h2 hs
  · rename_i cs he
    obtain ⟨h1, h2⟩ := ev1 h hx he
    have h1' : PR w imm (.ref cs) (a.eval x) := h1
    obtain ⟨blk, off, us, e0, _⟩ := h1'.ref_inv
    exact key e0 h1 h2 hs
  · exact hs.elim

theorem run_equalIn_nilS {t e : TypeId} {p : Option Addr} {m c : Nat} (d : Nat) (hu : P.underlying t = some (.slice e)) : (Op.equalIn (d + 1) t (.slice p m c) (.slice none 0 0)).run P w = .ok p.isNone w := by
  cases p <;> simp [Op.equalIn, run_under P w hu]
theorem snd_eqn {neg : Bool} {t ty e : TypeId} {x y : Operand} {x' : Opd} (ho : o.op = .binOp (if neg then .neq else .eql) t x y ty) (hu : P.underlying t = some (.slice e)) (hy : a.eval y = .slice none 0 0) (hx : opdOf x = some x') (hF : ∀ f, F.fn f) (h : Real E A sl hp ρ imm a w) (hd : dstOk E o.dst)
    (hs : opSem P E.gl (ev E.gl sl) hp j (.eqn neg x') K) : o.wpIn F n P a w (Post E A sl hp o.dst j K) Q := by
  have key : ∀ {p : Option Addr} {m c : Nat} {r : Bool}, a.eval x = .slice p m c → r = (if neg then !p.isNone else p.isNone) → K (.c false [.b r]) [] → o.wpIn F n P a w (Post E A sl hp o.dst j K) Q := by
    intro p m c r hv hr hk
    refine snd_pure (by simp [ho]) hF h hd (v := .bool r) ?_ (RS_mkv rfl) okC_v1 hk
    have hq : (Op.equal t (.slice p m c) (.slice none 0 0)).run P w = .ok p.isNone w := run_equalIn_nilS 9999 hu
    subst hr
    cases neg <;> simp [execOp, ho, hv, hy, run_eqGuard_slice, binOp, hq]
  simp only [opSem] at hs
  split at hs
  · rename_i he
    exact key (evv1 h hx he) (by cases neg <;> rfl) hs
  · rename_i k xs he
    obtain ⟨h1, _⟩ := ev1 h hx he
    have h1 : PR w imm (.li k xs) (a.eval x) := h1
    rcases h1.li_inv with ⟨rfl, e0⟩ | ⟨blk, off, cap, us, e0, _⟩
    · exact (hs.1 rfl).elim
    · exact key e0 (by cases neg <;> rfl) hs.2
  · exact hs.elim

/-! ### min, max -/
theorem run_mnS (h : Real E A sl hp ρ imm a w) (mx : Bool) (k : IntKind) : ∀ (xs : List Operand) (ys : List Opd) (m : Int) (r : AV), F2 (fun x y => opdOf x = some y) xs ys → mnS mx k m (ys.map (ev E.gl sl)) = some r →
    ∃ i, r = .v (.int k i) ∧ ((xs.map a.eval).foldlM (if mx then Builtin.max2 else Builtin.min2) (.int k m) : Sem Value).run P w = .ok (.int k i) w
  | [], [], m, r, _, hr => by simp only [List.map_nil, mnS, Option.some.injEq] at hr; exact ⟨m, hr.symm, by simp⟩
  | x :: xs, y :: ys, m, r, hq, hr => by
    simp only [List.map_cons] at hr
    unfold mnS at hr
    split at hr
    · rename_i he; cases he
    · rename_i k' b rr he
      simp only [List.cons.injEq] at he
      obtain ⟨he, rfl⟩ := he
      split at hr
      · rename_i hk
        subst hk
        have hv := evv1 h hq.1 he
        obtain ⟨i, h1, h2⟩ := run_mnS h mx k xs ys _ r hq.2 hr
        refine ⟨i, h1, ?_⟩
        rw [← h2]
        cases mx <;> simp [hv, Builtin.min2, Builtin.max2]
      · cases hr
    · cases hr
  | [], _ :: _, _, _, hq, _ => hq.elim
  | _ :: _, [], _, _, hq, _ => hq.elim

theorem snd_mn {mx : Bool} {c : Call} {ys : List Opd} (ho : o.op = .call c) (hcal : c.callee = .builtin (if mx then .max else .min)) (hys : opdsOf c.args.toList = some ys) (hF : ∀ f, F.fn f) (h : Real E A sl hp ρ imm a w) (hd : dstOk E o.dst)
    (hs : opSem P E.gl (ev E.gl sl) hp j (if mx then .mx ys else .mn ys) K) : o.wpIn F n P a w (Post E A sl hp o.dst j K) Q := by
  have hf := opdsOf_F2 hys
  have hs' : ∃ y r k m z, ys = y :: r ∧ ev E.gl sl y = .c false [.v (.int k m)] ∧ mnS mx k m (r.map (ev E.gl sl)) = some z ∧ K (.c false [z]) [] := by
    cases mx <;> simp only [opSem, Bool.false_eq_true, if_false, if_true] at hs <;> (
      split at hs
      · rename_i y r
        split at hs
        · rename_i k m he
          split at hs
          · rename_i z hz
            exact ⟨y, r, k, m, z, rfl, he, hz, hs⟩
          · exact hs.elim
        · exact hs.elim
      · exact hs.elim)
  obtain ⟨y, r, k, m, z, rfl, he, hz, hk⟩ := hs'
  cases hargs : c.args.toList with
  | nil => rw [hargs] at hf; exact hf.elim
  | cons x xs =>
    rw [hargs] at hf
    obtain ⟨i, rfl, hr⟩ := run_mnS (P := P) h mx k xs r m z hf.2 hz
    have hv := evv1 h hf.1 he
    refine snd_pure (by simp [ho]) hF h hd (v := .int k i) ?_ (RS_mkv rfl) okC_v1 hk
    have hl : (c.args.map a.eval).toList = a.eval x :: xs.map a.eval := by simp [hargs]
    cases mx
    · simp only [Bool.false_eq_true, if_false] at hcal hr
      simp [execOp, ho, resolve, hcal, invoke, builtin, Builtin.min_, hargs, hv, hr]
    · simp only [if_true] at hcal hr
      simp [execOp, ho, resolve, hcal, invoke, builtin, Builtin.max_, hargs, hv, hr]

/-! ### functions -/
theorem firstCells_sound (h : Real E A sl hp ρ imm a w) : ∀ (xs : List Operand) (ys : List Opd) (r : List (Bool × List AV)), F2 (fun x y => opdOf x = some y) xs ys → firstCells (ev E.gl sl) ys = some r →
    F2 (fun (p : Bool × List AV) (u : Value) => p.2.all AV.pers = true ∧ RV w imm ρ p.1 p.2 u) r (xs.map a.eval)
  | [], [], r, _, hr => by simp only [firstCells, Option.some.injEq] at hr; subst hr; trivial
  | x :: xs, y :: ys, r, hq, hr => by
    simp only [firstCells] at hr
    obtain ⟨g1, _⟩ := ev_RS h hq.1
    split at hr
    · rename_i ag cs he
      rw [he] at g1
      split at hr
      · rename_i hall
        simp only [Option.map_eq_some_iff] at hr
        obtain ⟨r', hr', rfl⟩ := hr
        exact ⟨⟨hall, g1⟩, firstCells_sound h xs ys r' hq.2 hr'⟩
      · cases hr
    · cases hr
  | [], _ :: _, _, hq, _ => hq.elim
  | _ :: _, [], _, hq, _ => hq.elim
theorem fnCells_sound (h : Real E A sl hp ρ imm a w) : ∀ (xs : List Operand) (ys : List Opd) (r : List AV), F2 (fun x y => opdOf x = some y) xs ys → fnCells (ev E.gl sl) ys = some r → F2 (PR w imm) r (xs.map a.eval)
  | [], [], r, _, hr => by simp only [fnCells, Option.some.injEq] at hr; subst hr; trivial
  | x :: xs, y :: ys, r, hq, hr => by
    simp only [fnCells] at hr
    obtain ⟨g1, _⟩ := ev_RS h hq.1
    split at hr
    · rename_i c he
      rw [he] at g1
      split at hr
      · rename_i hall
        simp only [Option.map_eq_some_iff] at hr
        obtain ⟨r', hr', rfl⟩ := hr
        exact ⟨by rw [← RA.of_pers hall]; exact g1.c1, fnCells_sound h xs ys r' hq.2 hr'⟩
      · cases hr
    · cases hr
  | [], _ :: _, _, hq, _ => hq.elim
  | _ :: _, [], _, hq, _ => hq.elim

/-- values and their cells -/
theorem vals_cells {w : World} {imm : Nat → Prop} {ρ : Nat → Cn} : ∀ {first : List (Bool × List AV)} {us : List Value}, F2 (fun (p : Bool × List AV) (u : Value) => p.2.all AV.pers = true ∧ RV w imm ρ p.1 p.2 u) first us →
    ∃ vs : List (List Value), us = List.zipWith valOf first vs ∧ F2 (fun p x => F2 (PR w imm) p.2 x ∧ (p.1 = false → x.length = 1)) first vs
  | [], [], _ => ⟨[], rfl, trivial⟩
  | p :: first, u :: us, h => by
    obtain ⟨vs, h1, h2⟩ := vals_cells h.2
    obtain ⟨hp, x, hc, hu⟩ := h.1
    have hx := RC.pers hc hp
    refine ⟨x :: vs, ?_, ⟨hx, fun e => ?_⟩, h2⟩
    · simp only [List.zipWith_cons_cons, ← h1]
      congr 1
      unfold valOf
      cases hb : p.1 <;> simp [hb] at hu ⊢
      · rw [hu]; rfl
      · exact hu
    · simp [e] at hu; rw [hu]; rfl
  | [], _ :: _, h => h.elim
  | _ :: _, [], h => h.elim

theorem PR.mkfn {w : World} {imm : Nat → Prop} {ρ : Nat → Cn} {f : Nat} {first : List (Bool × List AV)} {caps : List AV} {us us' : List Value}
    (h1 : F2 (fun (p : Bool × List AV) (u : Value) => p.2.all AV.pers = true ∧ RV w imm ρ p.1 p.2 u) first us) (h2 : F2 (PR w imm) caps us') : PR w imm (.fn f first caps) (.func (.func f) us.toArray us'.toArray) := by
  obtain ⟨vs, rfl, h3⟩ := vals_cells h1
  exact .fn vs us' h3.length.symm h2.length.symm (fun jj p x hp hx => ⟨(h3.get hp hx).1.length.symm, (h3.get hp hx).2⟩) (fun jj p x i y u hp hx hy hu => (h3.get hp hx).1.get hy hu) (fun jj x u hx hu => h2.get hx hu)

theorem snd_mkfn {f : Nat} {first caps : Array Operand} {fs cs : List Opd} (ho : o.op = .makeFunc (.func f) first caps) (hf : opdsOf first.toList = some fs) (hc : opdsOf caps.toList = some cs) (hF : ∀ f, F.fn f) (h : Real E A sl hp ρ imm a w) (hd : dstOk E o.dst)
    (hs : opSem P E.gl (ev E.gl sl) hp j (.mkfn f fs cs) K) : o.wpIn F n P a w (Post E A sl hp o.dst j K) Q := by
  simp only [opSem] at hs
  split at hs
  · rename_i r r' hr hr'
    have g1 := firstCells_sound h _ _ r (opdsOf_F2 hf) hr
    have g2 := fnCells_sound h _ _ r' (opdsOf_F2 hc) hr'
    have := PR.mkfn (f := f) g1 g2
    refine snd_pure (by simp [ho]) hF h hd ?_ (.mk1 (.of_PR this)) (okC1 (.none_id rfl)) hs
    simp only [execOp, ho, Instr.makeFunc, Sem.run_bind, Sem.run_pure, Result.andThen_ok]
    congr 3 <;> (apply Array.ext'; simp)
  · exact hs.elim
end Go.Proofs.YtlbafapmhjfobaaGreatDoor
namespace Go.Proofs.YtlbafapmhjfobaaGreatDoor
variable {P : Program} {E : Env} {F : Fence} {n : Nat} {A : Nat → Prop} {sl : Nat → SV} {hp : Nat → Option HE} {ρ : Nat → Cn} {imm : Nat → Prop} {a : Act} {w : World} {j : Nat}
  {K : SV → List (Nat × Option HE) → Prop} {Q : Exit → Act → World → Prop} {o : Oper}

theorem growBy_le {B m : Nat} (hB : m + (m + 768) / 4 ≤ B) : ∀ (r c : Nat), c ≤ B → Builtin.growBy m r c ≤ B
  | 0, c, h => by simpa [Builtin.growBy] using h
  | r + 1, c, h => by
    unfold Builtin.growBy
    split
    · exact h
    · exact growBy_le hB r _ (by omega)
theorem nextcap_le {m c : Nat} (hm : m ≤ big) (hc : c < m) : Builtin.nextslicecap m c ≤ 2147483648 := by
  unfold big at hm
  unfold Builtin.nextslicecap
  split
  · omega
  · split
    · omega
    · exact growBy_le (by omega) _ _ (by omega)

/-- what is appended -/
theorem src_of (h : Real E A sl hp ρ imm a w) {y : Operand} {y' : Opd} {k : Nat} (hy : opdOf y = some y') {ys : List (List AV)} {c : Prop}
    (hs : srcS hp k (ev E.gl sl y') = some (ys, c)) (hc : c) :
    ∃ p cap vs, a.eval y = .slice p ys.length cap ∧ (∀ x ∈ ys, x.length = k) ∧ F2 (PR w imm) ys.flatten vs ∧ ∀ w1 : World, w1.heap = w.heap → (Builtin.firstCells k ys.length (a.eval y)).run P w1 = .ok vs.toArray w1 := by
  have key : ∀ {blk off cap : Nat} {us : List Value}, a.eval y = .slice (some ⟨blk, off, none⟩) ys.length cap → (∀ x ∈ ys, x.length = k) → F2 (PR w imm) ys.flatten us → (∀ i, i < us.length → w.cell? ⟨blk, off + i, none⟩ = us[i]?) →
      ∃ p cap vs, a.eval y = .slice p ys.length cap ∧ (∀ x ∈ ys, x.length = k) ∧ F2 (PR w imm) ys.flatten vs ∧ ∀ w1 : World, w1.heap = w.heap → (Builtin.firstCells k ys.length (a.eval y)).run P w1 = .ok vs.toArray w1 := by
    intro blk off cap us hv h3 hf hcell
    refine ⟨_, _, us, hv, h3, hf, fun w1 hw1 => ?_⟩
    rw [hv]
    simp only [Builtin.firstCells]
    have := hf.length
    rw [row_len h3] at this
    rw [this]
    exact run_loadCells P us (fun i hi => by rw [cell_sameHeap hw1]; exact hcell i hi)
  have nilc : a.eval y = .slice none 0 0 → ys = [] → ∃ p cap vs, a.eval y = .slice p ys.length cap ∧ (∀ x ∈ ys, x.length = k) ∧ F2 (PR w imm) ys.flatten vs ∧ ∀ w1 : World, w1.heap = w.heap → (Builtin.firstCells k ys.length (a.eval y)).run P w1 = .ok vs.toArray w1 := by
    rintro hv rfl
    exact ⟨none, 0, [], hv, by simp, trivial, fun w1 _ => by rw [hv]; rfl⟩
  unfold srcS at hs
  split at hs
  · rename_i he
    simp only [Option.some.injEq, Prod.mk.injEq] at hs
    exact nilc (evv1 h hy he) hs.1.symm
  · rename_i k' zs he
    simp only [Option.some.injEq, Prod.mk.injEq] at hs
    obtain ⟨rfl, rfl⟩ := hs
    subst hc
    obtain ⟨h1, _⟩ := ev1 h hy he
    have h1 : PR w imm (.li k' zs) (a.eval y) := h1
    rcases h1.li_inv with ⟨rfl, e0⟩ | ⟨blk, off, cap, us, e0, _, h3, h5, h6, h7⟩
    · exact nilc e0 rfl
    · exact key e0 h3 h7 h5
  · rename_i b q he
    split at hs
    · rename_i k' zs hb
      simp only [Option.some.injEq, Prod.mk.injEq] at hs
      obtain ⟨rfl, rfl⟩ := hs
      obtain ⟨rfl, hq⟩ := hc
      obtain ⟨h1, _⟩ := ev1 h hy he
      obtain ⟨g1, g2, g3, g4⟩ := h.heap b _ hb
      have hv := h1.2 (by rw [hq, g1])
      rcases g4 with ⟨g4, g5⟩ | ⟨cap, us, rest, e, g5, g6, g7, g8, g9⟩
      · rw [g5] at hv; exact nilc hv g4
      · rw [g5] at hv
        refine key hv g3 g9 (fun i hi => ?_)
        rw [Nat.zero_add, cellsAt g8, List.getElem?_append_left hi]
    · cases hs
  · cases hs

/-- a row of ours, longer: in whatever way -/
theorem Real.row {b0 k : Nat} {xs zs : List (List AV)} {c' : Cn} {w' : World} {Wt : Nat → Prop} {d : Option Nat} (h : Real E A sl hp ρ imm a w) (hd : dstOk E d) (hj : A j → False) (hb0 : hp b0 = some (.row k xs) ∨ (b0 = j ∧ xs = []))
    (hw : Ext Wt w w') (hWt : ∀ x, Wt x → ∃ he, hp b0 = some he ∧ he.uses (ρ b0) ∧ x = (ρ b0).blk)
    (hlen : xs.length ≤ zs.length) (hsame : hp b0 = some (.row k xs) → xs.length = zs.length → c'.val = (ρ b0).val ∧ c'.blk = (ρ b0).blk)
    (hrh : RH w' imm ρ c' (.row k zs))
    (hused : (HE.row k zs).uses c' → c'.blk < w'.heap.size ∧ ¬ imm c'.blk ∧ (w.heap.size ≤ c'.blk ∨ ∃ he0, hp b0 = some he0 ∧ he0.uses (ρ b0) ∧ c'.blk = (ρ b0).blk))
    (hone : c'.val.oneCell' = true) :
    Real E (fun y => A y ∨ y = j) (putS sl d (.c false [.own b0 zs.length])) (upd hp b0 (some (.row k zs))) (upd ρ b0 c') imm (a.put d c'.val) w' := by
  have hA0 : A b0 ∨ b0 = j := by
    rcases hb0 with hb0 | ⟨hb0, _⟩
    · exact .inl (h.wf.idh b0 _ hb0).1
    · exact .inr hb0
  have hsz : w.heap.size ≤ w'.heap.size := hw.size
  have himm : ∀ x, imm x → w'.heap[x]? = w.heap[x]? := fun x hx => hw.block x (h.immlt x hx) (fun hwx => by
    obtain ⟨he, hb, hu, rfl⟩ := hWt x hwx
    exact (h.used b0 he hb hu).2.1 hx)
  have hok : ∀ x, okC A hp x → okC (fun y => A y ∨ y = j) (upd hp b0 (some (.row k zs))) x := by
    intro x hx c hc
    obtain ⟨h1, h2⟩ := hx c hc
    refine ⟨.inl h1, fun k' xs' hk' => ?_⟩
    by_cases hcb : c = b0
    · subst hcb
      rw [upd_same] at hk'
      cases hk'
      rcases hb0 with hb0 | ⟨rfl, _⟩
      · have := h2 k xs hb0
        cases x <;> simp only [] at this ⊢ <;> first | exact Nat.le_trans this hlen | exact this
      · exact (hj h1).elim
    · rw [upd_ne _ _ hcb] at hk'; exact h2 k' xs' hk'
  have hout : okC (fun y => A y ∨ y = j) (upd hp b0 (some (.row k zs))) (.own b0 zs.length) := by
    intro c hc
    simp only [AV.id?, Option.some.injEq] at hc
    subst hc
    refine ⟨hA0, fun k' xs' hk' => ?_⟩
    rw [upd_same] at hk'
    cases hk'
    exact Nat.le_refl _
  have hRA : ∀ x u, okC A hp x → RA w imm ρ x u → RA w' imm (upd ρ b0 c') x u := by
    intro x u hx hr
    by_cases hid : x.id? = some b0
    · obtain ⟨h1, h2⟩ := hx b0 hid
      rcases hb0 with hb0 | ⟨rfl, _⟩
      · have h3 := h2 k xs hb0
        obtain ⟨g1, g2, _⟩ := h.heap b0 _ hb0
        obtain ⟨f1, f2, _⟩ := hrh
        cases x with
        | own b m =>
          simp only [AV.id?, Option.some.injEq] at hid
          subst hid
          simp only [RA, upd_same] at hr ⊢
          refine ⟨hr.1, fun e => ?_⟩
          have h3 : m ≤ xs.length := h3
          rw [f1] at e
          have he : xs.length = zs.length := by omega
          rw [(hsame hb0 he).1]
          exact hr.2 (by rw [g1]; omega)
        | ept b m i off =>
          simp only [AV.id?, Option.some.injEq] at hid
          subst hid
          simp only [RA, upd_same] at hr ⊢
          refine ⟨hr.1, fun e => ?_⟩
          have h3 : m ≤ xs.length := h3
          rw [f1] at e
          have he : xs.length = zs.length := by omega
          rw [(hsame hb0 he).2, f2, ← g2]
          exact hr.2 (by rw [g1]; omega)
        | part b m lo hi =>
          simp only [AV.id?, Option.some.injEq] at hid
          subst hid
          simp only [RA, upd_same] at hr ⊢
          refine ⟨hr.1, fun e => ?_⟩
          have h3 : m ≤ xs.length := h3
          rw [f1] at e
          have he : xs.length = zs.length := by omega
          rw [(hsame hb0 he).1, f2, ← g2]
          exact hr.2 (by rw [g1]; omega)
        | ptr b off => exact h3.elim
        | mp b => exact h3.elim
        | _ => simp [AV.id?] at hid
      · exact (hj h1).elim
    · exact (RA.upd hid hr).mono (fun _ h => h) himm
  refine h.go (b0 := b0) (hpin := fun c hc => (hb0.elim (fun hb0 => (h.pin _ c hc).2.2.2 k xs hb0) (fun hb0 => hj (hb0.1 ▸ (h.pin _ c hc).2.1))).elim) (hpr := fun hz e k2 ys hk => by
    subst e
    rw [upd_same] at hk
    cases hk
    rcases hb0 with hb0 | ⟨rfl, _⟩
    · refine ⟨k, xs, hb0, hlen, fun hle => ?_⟩
      rw [upd_same]
      obtain ⟨g1, g2, _⟩ := h.heap 0 _ hb0
      obtain ⟨f1, f2, _⟩ := hrh
      obtain ⟨e1, e2⟩ := hsame hb0 hle
      cases hc' : c'
      cases hρ0 : ρ 0
      rw [hc'] at e1 e2 f1 f2
      rw [hρ0] at e1 e2 g1 g2
      simp only at e1 e2 f1 f2 g1 g2
      subst e1 e2
      rw [f1, f2, g1, g2, hle]
    · exact (hj hz).elim) (fun x hx => .inl hx) hw hWt (fun x hx => hx) (fun x hx => ⟨by have := h.immlt x hx; omega, .inl hx⟩) (by rw [put_size]; exact h.nt) (put_defers _ _ _)
    hRA hok (fun i => ?_) (fun b hb => ⟨upd_ne _ _ hb, upd_ne _ _ hb⟩) (fun he hhe => ?_)
  · cases d with
    | none => exact .inl ⟨rfl, rfl⟩
    | some d =>
      rw [put_getD _ _ _ _ (by rw [h.nt]; exact hd d rfl)]
      simp only [putS, upd_apply]
      by_cases hi : i = d
      · simp only [hi, if_true]
        refine .inr ⟨.mk1 ?_, okC1 hout⟩
        simp only [RA, upd_same]
        exact ⟨hone, by simp⟩
      · simp only [hi, if_false]; exact .inl (by simp)
  · rw [upd_same] at hhe
    cases hhe
    simp only [upd_same]
    exact ⟨hA0, by simp [HE.cells], hrh, hused⟩

theorem zeros_size {zv : Value} {m : Nat} : (Builtin.zeroCells zv.cells m).toList.length = m * zv.cells.size := by simp [Builtin.zeroCells]

theorem snd_app {x y : Operand} {x' y' : Opd} {ats : Array TypeId} {t u e e' : TypeId} {i : TypeInfo} {z : List AV} (ho : o.op = .call { callee := .builtin .append, args := #[x, y], argTypes := ats }) (hat : ats[0]? = some t) (hat' : ats[1]? = some u)
    (ht : P.underlying t = some (.slice e)) (hu : P.underlying u = some (.slice e')) (hi : P.info? e = some i) (hz : zeroOf P e = some z) (hpos : 0 < i.size ∧ 0 < i.bytes ∧ i.bytes ≤ 1024 ∧ z.length = i.size)
    (hx : opdOf x = some x') (hy : opdOf y = some y') (hF : ∀ f, F.fn f) (h : Real E A sl hp ρ imm a w) (hj : ¬ A j) (hd : dstOk E o.dst)
    (hs : opSem P E.gl (ev E.gl sl) hp j (.app i.size i.bytes x' y') K) : o.wpIn F n P a w (Post E A sl hp o.dst j K) Q := by
  have hne : ∀ c, o.op ≠ .defer c := by simp [ho]
  obtain ⟨zv, hzv, hze, _, i', hi', _⟩ := run_zero P w hz
  rw [hi] at hi'
  cases hi'
  have hzl : zv.cells.size = i.size := by
    have := hpos.2.2.2
    rw [hze] at this
    simpa using this
  have hsz : szOf P e = some i.size := by simp [szOf, hi]
  simp only [opSem] at hs
  split at hs
  · exact hs.elim
  · rename_i ys c hsrc
    obtain ⟨hc, hs⟩ := hs
    obtain ⟨py, cy, vs, hvy, hy3, hyf, hyr⟩ := src_of (P := P) h hy hsrc hc
    have hyr0 := hyr w rfl
    have hvl := hyf.length
    rw [row_len hy3] at hvl
    -- the destination: nil, or a row of ours
    have go : ∀ (b0 : Nat) (xs : List (List AV)), (hp b0 = some (.row i.size xs) ∨ (b0 = j ∧ xs = [])) → (∀ x ∈ xs, x.length = i.size) → xs.length + ys.length ≤ big →
        ((xs = [] ∧ a.eval x = .slice none 0 0 ∧ (hp b0 = some (.row i.size xs) → (ρ b0).val = .slice none 0 0)) ∨ ∃ cap us rest el, hp b0 = some (.row i.size xs) ∧ (ρ b0).val = .slice (some ⟨(ρ b0).blk, 0, none⟩) xs.length cap ∧ a.eval x = (ρ b0).val ∧ xs.length ≤ cap ∧ us.length + rest.length = cap * i.size ∧
          w.heap[(ρ b0).blk]? = some (.cells (us ++ rest).toArray el) ∧ F2 (PR w imm) xs.flatten us) →
        K (.c false [.own b0 (xs ++ ys).length]) [(b0, some (.row i.size (xs ++ ys)))] → o.wpIn F n P a w (Post E A sl hp o.dst j K) Q := by
      intro b0 xs hb0 h3 hbig hval hk
      have h3' : ∀ x ∈ xs ++ ys, x.length = i.size := by
        intro q hq
        rcases List.mem_append.1 hq with hq | hq
        · exact h3 q hq
        · exact hy3 q hq
      have fin : ∀ {w' : World} {c' : Cn} {Wt : Nat → Prop}, (Builtin.append_ ats o.type #[a.eval x, a.eval y]).run P w = .ok c'.val w' → Ext Wt w w' → (∀ x, Wt x → ∃ he, hp b0 = some he ∧ he.uses (ρ b0) ∧ x = (ρ b0).blk) →
          (hp b0 = some (.row i.size xs) → xs.length = (xs ++ ys).length → c'.val = (ρ b0).val ∧ c'.blk = (ρ b0).blk) → RH w' imm ρ c' (.row i.size (xs ++ ys)) →
          ((HE.row i.size (xs ++ ys)).uses c' → c'.blk < w'.heap.size ∧ ¬ imm c'.blk ∧ (w.heap.size ≤ c'.blk ∨ ∃ he0, hp b0 = some he0 ∧ he0.uses (ρ b0) ∧ c'.blk = (ρ b0).blk)) → c'.val.oneCell' = true →
          o.wpIn F n P a w (Post E A sl hp o.dst j K) Q := by
        intro w' c' Wt hrun hw hWt hsame hrh hused hone
        refine ⟨fun f _ => hF f, ?_⟩
        rw [Oper.semAt_eq _ _ _ hne]
        have : (execOp a.eval o).run P w = .ok (.value c'.val) w' := by
          simp [execOp, ho, resolve, invoke, builtin, hrun]
        rw [this]
        exact ⟨_, _, _, imm, hk, h.row hd hj hb0 hw hWt (by simp) hsame hrh hused hone⟩
      have hzf : (match (ats[1]? : Option TypeId) with | some xType => do pure ((← underlying xType) matches .int _) | none => pure false : Sem Bool).run P w = .ok false w := by
        simp [hat', run_under P w hu]
      -- growing
      have grow : ∀ {p : Option Addr} {cap : Nat} {us : List Value}, a.eval x = .slice p xs.length cap → cap < xs.length + ys.length → us.length = xs.length * i.size → F2 (PR w imm) xs.flatten us →
          (Builtin.firstCells i.size xs.length (a.eval x)).run P { w with drawn := w.drawn + 1 } = .ok us.toArray { w with drawn := w.drawn + 1 } → (hp b0 = some (.row i.size xs) → xs.length = (xs ++ ys).length → False) → o.wpIn F n P a w (Post E A sl hp o.dst j K) Q := by
        intro p cap us hvx hcap hul huf hold hno
        have hnc := nextcap_le (m := xs.length + ys.length) (c := cap) hbig hcap
        have hlim : ¬ Builtin.nextslicecap (xs.length + ys.length) cap * i.bytes > 2 ^ 48 := by
          have := Nat.mul_le_mul hnc hpos.2.2.1
          omega
        generalize hq : Question.cut (.appendCap (xs.length + ys.length) cap e) (w.tape w.drawn (.appendCap (xs.length + ys.length) cap e)) = newCap
        have hnew : xs.length + ys.length ≤ newCap := by
          rw [← hq]; simp only [Question.cut]; omega
        have hyr' : (Builtin.firstCells i.size ys.length (a.eval y)).run P { w with drawn := w.drawn + 1 } = .ok vs.toArray { w with drawn := w.drawn + 1 } := hyr _ rfl
        have hzv' : (zeroValue e).run P { w with drawn := w.drawn + 1 } = .ok zv { w with drawn := w.drawn + 1 } := by
          obtain ⟨zv', h1, h2, _, i2, hi2, hz2⟩ := run_zero P { w with drawn := w.drawn + 1 } hz
          obtain ⟨_, _, _, _, i3, hi3, hz3⟩ := run_zero P w hz
          simp only [zeroValue, typeInfo, Sem.run_bind, run_program, Result.andThen_ok] at hzv ⊢
          rw [hi] at hzv ⊢
          simp only [Sem.run_pure, Result.andThen_ok] at hzv ⊢
          split at hzv <;> simp_all
        let cs : List Value := us ++ vs ++ (Builtin.zeroCells zv.cells (newCap - (xs.length + ys.length))).toList
        have hrun : (Builtin.append_ ats o.type #[a.eval x, a.eval y]).run P w = .ok (.slice (some ⟨w.heap.size, 0, none⟩) (xs.length + ys.length) newCap) { w with drawn := w.drawn + 1, heap := w.heap.push (.cells cs.toArray e) } := by
          have hnn : ¬ xs.length + ys.length ≤ cap := by omega
          have hb0 : ¬ i.bytes = 0 := by omega
          unfold Builtin.append_
          rw [hvx] at hold ⊢
          rw [hvy] at hyr' ⊢
          simp only [hat, List.getElem?_toArray, List.getElem?_cons_zero, List.getElem?_cons_succ, Sem.run_bind, run_under P w ht, Result.andThen_ok, run_size P w hsz, hat', run_under P w hu, Bool.false_eq_true, if_false, Builtin.lenOf, Sem.run_pure, if_neg hnn, run_info P w hi, false_or, hb0, and_false, if_neg hlim, run_choose, Question.forced, hq, run_askRoom, hold, Bool.not_false, if_true, hyr', hzv', newRow, run_newObj]
          have hold2 : (Builtin.firstCells i.size xs.length (.slice p xs.length cap)).run P w.drew = .ok us.toArray w.drew := hold
          have hyr2 : (Builtin.firstCells i.size ys.length (.slice py ys.length cy)).run P w.drew = .ok vs.toArray w.drew := hyr'
          have hzv2 : (zeroValue e).run P w.drew = .ok zv w.drew := hzv'
          simp
          simp only [run_info P w.drew hi, hold2, hyr2, hzv2, Result.andThen_ok]
          have harr : us.toArray ++ (vs.toArray ++ Builtin.zeroCells zv.cells (newCap - (xs.length + ys.length))) = cs.toArray := by
            apply Array.ext'; simp [cs]
          rw [harr]
          rfl
        refine fin (c' := ⟨w.heap.size, .slice (some ⟨w.heap.size, 0, none⟩) (xs.length + ys.length) newCap, xs.length + ys.length, i.size⟩) (Wt := fun _ => False) hrun ⟨rfl, rfl, rfl, Nat.le_succ _, by simp, fun b hb _ => ?_⟩ (fun _ hx => hx.elim) (fun hh he => (hno hh he).elim) ?_ (fun _ => ⟨by simp, fun hi => by have := h.immlt _ hi; simp at this, .inl (Nat.le_refl _)⟩) rfl
        · show (w.heap.push _)[b]? = _
          rw [Array.getElem?_push, if_neg (by omega)]
        · refine ⟨by simp, rfl, h3', .inr ⟨newCap, us ++ vs, (Builtin.zeroCells zv.cells (newCap - (xs.length + ys.length))).toList, e, by simp, by simpa using hnew, ?_, ?_, ?_⟩⟩
          · rw [zeros_size, hzl, List.length_append, hul, ← hvl, ← Nat.add_mul, ← Nat.add_mul]
            congr 1; omega
          · show (w.heap.push _)[w.heap.size]? = _
            simp [cs]
          · rw [List.flatten_append]
            refine F2.mono (R := PR w imm) (fun _ _ _ hq => PR.mono (imm := imm) (fun _ h => h) (fun b hb => ?_) hq) (huf.append hyf)
            show (w.heap.push _)[b]? = _
            rw [Array.getElem?_push, if_neg (by have := h.immlt b hb; omega)]
      rcases hval with ⟨rfl, hvx, hnv⟩ | ⟨cap, us, rest, el, hb, hpv, hvx, hcap, hur, hheap, huf⟩
      · by_cases hy0 : ys = []
        · subst hy0
          have hrun : (Builtin.append_ ats o.type #[a.eval x, a.eval y]).run P w = .ok (.slice none 0 0) w := by
            unfold Builtin.append_
            rw [hvx]
            rw [hvy] at hyr0 ⊢
            have : vs = [] := List.length_eq_zero_iff.1 (by simp at hvl; omega)
            subst this
            simp only [List.length_nil] at hyr0
            simp only [hat, List.getElem?_toArray, List.getElem?_cons_zero, List.getElem?_cons_succ, Sem.run_bind, run_under P w ht, Result.andThen_ok, run_size P w hsz, hat', run_under P w hu, Bool.false_eq_true, if_false, Builtin.lenOf, Sem.run_pure, List.length_nil, Nat.add_zero, Nat.le_refl, if_true, Bool.not_false, hyr0]
          refine fin (c' := ⟨(ρ b0).blk, .slice none 0 0, 0, i.size⟩) (Wt := fun _ => False) hrun (Ext.refl _ _) (fun _ hx => hx.elim) (fun hh _ => ⟨(hnv hh).symm, rfl⟩) ⟨rfl, rfl, by simp, .inl ⟨rfl, rfl⟩⟩ (fun hu => (hu rfl).elim) rfl
        · have hpos' : 0 < ys.length := List.length_pos_iff.2 hy0
          refine grow (us := []) (cap := 0) hvx (by simpa using hpos') (by simp) trivial ?_ (fun _ he => by simp at he; omega)
          rw [hvx]; rfl
      · rw [hpv] at hvx
        have hul := huf.length
        rw [row_len h3] at hul
        have hblk : (ρ b0).blk < w.heap.size := (Array.getElem?_eq_some_iff.1 hheap).1
        have huses : (HE.row i.size xs).uses (ρ b0) := by simp [HE.uses, hpv]
        have hni := (h.used b0 _ hb huses).2.1
        by_cases hroom : xs.length + ys.length ≤ cap
        · have hfit : (xs.length + ys.length) * i.size ≤ cap * i.size := Nat.mul_le_mul_right _ hroom
          rw [Nat.add_mul] at hfit
          have hst := run_storeFrom P vs (w := w) (b := (ρ b0).blk) (o := xs.length * i.size) (i := 0) (us := us ++ rest) (e := el) hheap (by simp; omega) (fun v hv => by
            obtain ⟨jj, hjj⟩ := List.mem_iff_getElem?.1 hv
            have hlt := (List.getElem?_eq_some_iff.1 hjj).1
            have hfl : jj < ys.flatten.length := by rw [row_len hy3]; omega
            exact (hyf.get (x := ys.flatten[jj]) (by simp [hfl]) hjj).one)
          simp only [Nat.add_zero] at hst
          have hcells : (us ++ rest).take (xs.length * i.size) ++ (vs ++ (us ++ rest).drop (xs.length * i.size + vs.length)) = (us ++ vs) ++ rest.drop vs.length := by
            rw [List.take_append_of_le_length (by omega), List.take_of_length_le (by omega), hul, List.drop_length_add_append, List.append_assoc]
          rw [hcells] at hst
          have hrun : (Builtin.append_ ats o.type #[a.eval x, a.eval y]).run P w = .ok (.slice (some ⟨(ρ b0).blk, 0, none⟩) (xs.length + ys.length) cap) (setBlk w (ρ b0).blk (.cells ((us ++ vs) ++ rest.drop vs.length).toArray el)) := by
            unfold Builtin.append_
            rw [hvx]
            rw [hvy] at hyr0 ⊢
            simp only [hat, List.getElem?_toArray, List.getElem?_cons_zero, List.getElem?_cons_succ, Sem.run_bind, run_under P w ht, Result.andThen_ok, run_size P w hsz, hat', run_under P w hu, Bool.false_eq_true, if_false, Builtin.lenOf, Sem.run_pure, if_pos hroom, Bool.not_false, if_true, hyr0, addr_add, Nat.zero_add, hst]
          refine fin (c' := ⟨(ρ b0).blk, .slice (some ⟨(ρ b0).blk, 0, none⟩) (xs.length + ys.length) cap, xs.length + ys.length, i.size⟩) (Wt := fun q => q = (ρ b0).blk) hrun ⟨rfl, rfl, rfl, Nat.le_refl _, by rw [setBlk_size]; exact Nat.le_refl _, fun b _ hn => by rw [setBlk_heap, if_neg hn]⟩
            (fun q hq => ⟨_, hb, huses, hq⟩) (fun _ he => ⟨?_, rfl⟩) ?_ (fun _ => ⟨by rw [setBlk_size]; exact hblk, hni, .inr ⟨_, hb, huses, rfl⟩⟩) rfl
          · simp only [List.length_append] at he
            rw [hpv]
            simp only [Value.slice.injEq, true_and, and_true]
            omega
          · refine ⟨by simp, rfl, h3', .inr ⟨cap, us ++ vs, rest.drop vs.length, el, by simp, by simpa using hroom, ?_, ?_, ?_⟩⟩
            · simp only [List.length_append, List.length_drop]; omega
            · rw [setBlk_heap]; simp [hblk]
            · rw [List.flatten_append]
              exact F2.mono (R := PR w imm) (fun _ _ _ hq => PR.mono (imm := imm) (fun _ h => h) (setBlk_imm hni) hq) (huf.append hyf)
        · refine grow (us := us) (cap := cap) hvx (by omega) (by omega) huf ?_ (fun _ he => by simp at he; simp [he] at hroom; omega)
          rw [hvx]
          simp only [Builtin.firstCells]
          rw [hul]
          exact run_loadCells P us (fun ii hii => by
            show w.cell? _ = _
            rw [Nat.zero_add, cellsAt hheap, List.getElem?_append_left hii])
    split at hs
    · rename_i he
      exact go j [] (.inr ⟨rfl, rfl⟩) (by simp) (by simpa using hs.1) (.inl ⟨rfl, evv1 h hx he, fun hh => (hj (h.wf.idh j _ hh).1).elim⟩) (by simpa using hs.2)
    · rename_i b q he
      split at hs
      · rename_i k' xs hb
        obtain ⟨rfl, hq, hbig, _, hk⟩ := hs
        obtain ⟨h1, _⟩ := ev1 h hx he
        obtain ⟨g1, g2, g3, g4⟩ := h.heap b _ hb
        have hv := h1.2 (by rw [hq, g1])
        refine go b xs (.inl hb) g3 hbig ?_ hk
        rcases g4 with ⟨g4, g5⟩ | ⟨cap, us, rest, el, g5, g6, g7, g8, g9⟩
        · exact .inl ⟨g4, by rw [hv, g5], fun _ => g5⟩
        · exact .inr ⟨cap, us, rest, el, hb, g5, hv, g6, g7, g8, g9⟩
      · exact hs.elim
    · exact hs.elim
end Go.Proofs.YtlbafapmhjfobaaGreatDoor
namespace Go.Proofs.YtlbafapmhjfobaaGreatDoor
variable {P : Program} {E : Env} {F : Fence} {n : Nat} {A : Nat → Prop} {sl : Nat → SV} {hp : Nat → Option HE} {ρ : Nat → Cn} {imm : Nat → Prop} {a : Act} {w : World} {j : Nat}
  {K : SV → List (Nat × Option HE) → Prop} {Q : Exit → Act → World → Prop} {o : Oper}

/-- the value of a type out of its cells -/
def valT (P : Program) (t : TypeId) (us : List Value) : Value :=
  match P.underlying t with
  | some (.struct _) | some (.array _ _) => .agg us.toArray
  | _ => us.headD (.tuple #[])

theorem kOk_length : ∀ {ds : List (Option IntKind)} {us : List Value}, kOk ds us = true → us.length = ds.length
  | [], [], _ => rfl
  | some k :: ds, .int k' a :: us, h => by simp [kOk] at h; simp [kOk_length h.2]
  | none :: ds, .bool b :: us, h => by simp [kOk] at h; simp [kOk_length h]
  | [], _ :: _, h => by simp [kOk] at h
  | some _ :: _, [], h => by simp [kOk] at h
  | none :: _, [], h => by simp [kOk] at h
  | some _ :: _, .bool _ :: _, h => by simp [kOk] at h
  | none :: _, .int _ _ :: _, h => by simp [kOk] at h
  | d :: _, .float _ _ :: _, h => by cases d <;> simp [kOk] at h
  | d :: _, .complex _ _ _ :: _, h => by cases d <;> simp [kOk] at h
  | d :: _, .string _ :: _, h => by cases d <;> simp [kOk] at h
  | d :: _, .pointer _ :: _, h => by cases d <;> simp [kOk] at h
  | d :: _, .slice _ _ _ :: _, h => by cases d <;> simp [kOk] at h
  | d :: _, .map _ :: _, h => by cases d <;> simp [kOk] at h
  | d :: _, .chan _ :: _, h => by cases d <;> simp [kOk] at h
  | d :: _, .func _ _ _ :: _, h => by cases d <;> simp [kOk] at h
  | d :: _, .nilFunc :: _, h => by cases d <;> simp [kOk] at h
  | d :: _, .iface _ _ :: _, h => by cases d <;> simp [kOk] at h
  | d :: _, .nilIface :: _, h => by cases d <;> simp [kOk] at h
  | d :: _, .agg _ :: _, h => by cases d <;> simp [kOk] at h
  | d :: _, .tuple _ :: _, h => by cases d <;> simp [kOk] at h
theorem kOk_cons {d : Option IntKind} {ds : List (Option IntKind)} {u : Value} {us : List Value} (h : kOk (d :: ds) (u :: us) = true) : kOk [d] [u] = true ∧ kOk ds us = true := by
  cases d <;> cases u <;> simp_all [kOk]
theorem kOk_append : ∀ {ds ds' : List (Option IntKind)} {us : List Value}, kOk (ds ++ ds') us = true → kOk ds (us.take ds.length) = true ∧ kOk ds' (us.drop ds.length) = true
  | [], ds', us, h => by simpa [kOk] using h
  | d :: ds, ds', [], h => by cases d <;> simp [kOk] at h
  | d :: ds, ds', u :: us, h => by
    have h1 := kOk_cons (by simpa using h : kOk (d :: (ds ++ ds')) (u :: us) = true)
    obtain ⟨h2, h3⟩ := kOk_append h1.2
    refine ⟨?_, by simpa using h3⟩
    simp only [List.length_cons, List.take_succ_cons]
    have h4 := h1.1
    cases d <;> cases u <;> simp_all [kOk]
theorem eqVs_append : ∀ {ds : List (Option IntKind)} {us vs us' vs' : List Value}, kOk ds us = true → kOk ds vs = true → eqVs (us ++ us') (vs ++ vs') = (eqVs us vs && eqVs us' vs')
  | [], [], [], _, _, _, _ => by simp [eqVs]
  | [], [], _ :: _, _, _, _, h => by simp [kOk] at h
  | [], _ :: _, _, _, _, h, _ => by simp [kOk] at h
  | d :: ds, [], _, _, _, h, _ => by cases d <;> simp [kOk] at h
  | d :: ds, _ :: _, [], _, _, _, h => by cases d <;> simp [kOk] at h
  | d :: ds, u :: us, v :: vs, us', vs', h, h' => by
    have h1 := kOk_cons h
    have h2 := kOk_cons h'
    have ih := eqVs_append (us' := us') (vs' := vs') h1.2 h2.2
    have h3 := h1.1
    have h4 := h2.1
    cases d <;> cases u <;> simp [kOk] at h3 <;> cases v <;> simp [kOk] at h4
    all_goals
      show (_ && eqVs (us ++ us') (vs ++ vs')) = ((_ && eqVs us vs) && eqVs us' vs')
      rw [ih, Bool.and_assoc]
theorem eqVs_split {ds ds' : List (Option IntKind)} {us vs : List Value} (h : kOk (ds ++ ds') us = true) (h' : kOk (ds ++ ds') vs = true) :
    eqVs us vs = (eqVs (us.take ds.length) (vs.take ds.length) && eqVs (us.drop ds.length) (vs.drop ds.length)) := by
  rw [← eqVs_append (kOk_append h).1 (kOk_append h').1, List.take_append_drop, List.take_append_drop]

theorem run_partT {t : TypeId} {ds : List (Option IntKind)} {off : Nat} {us : List Value} (hag : ∃ ag, agOf P t = some ag) (hsz : szOf P t = some ds.length) (h1 : agOf P t = some false → ds.length = 1) (hl : off + ds.length ≤ us.length) :
    (part t us.toArray off).run P w = .ok (valT P t ((us.drop off).take ds.length)) w := by
  obtain ⟨ag, hag⟩ := hag
  have hm : ds.length = if ag then ds.length else 1 := by cases ag <;> simp; exact h1 hag
  rw [run_part hag hsz hm hl]
  congr 1
  unfold agOf at hag
  unfold valT
  cases hu : P.underlying t with
  | none => simp [hu] at hag
  | some d => simp only [hu, Option.map_some, Option.some.injEq] at hag; cases d <;> (simp only [] at hag; subst hag; rfl)

theorem flatK_ag {d : Nat} {t : TypeId} {ds : List (Option IntKind)} (h : flatK P d t = some ds) : (∃ ag, agOf P t = some ag) ∧ (agOf P t = some false → ds.length = 1) := by
  cases d with
  | zero => simp [flatK] at h
  | succ d =>
    simp only [flatK] at h
    unfold agOf
    cases hu : P.underlying t with
    | none => simp [hu] at h
    | some dd =>
      rw [hu] at h
      cases dd <;> simp only [Option.map_some, Option.some.injEq, Bool.true_eq_false, false_implies, and_true, exists_eq', true_and, true_implies] at h ⊢ <;> first | (subst h; rfl) | cases h | skip

/-- '==' on such types -/
theorem run_flat : ∀ (d : Nat) (t : TypeId) (ds : List (Option IntKind)), flatK P d t = some ds → ∀ (D : Nat), d ≤ D → ∀ (us vs : List Value) (w : World), kOk ds us = true → kOk ds vs = true →
    (Op.equalIn D t (valT P t us) (valT P t vs)).run P w = .ok (eqVs us vs) w := by
  intro d
  induction d with
  | zero => intro t ds h; simp [flatK] at h
  | succ d ih =>
    intro t ds h D hD us vs w hus hvs
    obtain ⟨D, rfl⟩ : ∃ D', D = D' + 1 := ⟨D - 1, by omega⟩
    simp only [flatK] at h
    cases hu : P.underlying t with
    | none => simp [hu] at h
    | some dd =>
      rw [hu] at h
      cases dd <;> simp only [] at h <;> try (cases h; done)
      case int k =>
        simp only [Option.some.injEq] at h
        subst h
        have e1 := kOk_length hus
        have e2 := kOk_length hvs
        match us, vs, e1, e2 with
        | [u], [v], _, _ =>
          cases u <;> simp [kOk] at hus
          cases v <;> simp [kOk] at hvs
          subst hus; subst hvs
          simp [valT, hu, run_equalIn_int w D t _ _ _ _ hu, eqVs]
      case bool =>
        simp only [Option.some.injEq] at h
        subst h
        have e1 := kOk_length hus
        have e2 := kOk_length hvs
        match us, vs, e1, e2 with
        | [u], [v], _, _ =>
          cases u <;> simp [kOk] at hus
          cases v <;> simp [kOk] at hvs
          simp [valT, hu, run_equalIn_bool' w D t _ _ hu, eqVs]
      case struct fs =>
        split at h
        · cases h
        · rename_i hst
          have hfl : P.fieldsOf t = fs := by simp [Program.fieldsOf, hu]
          have hrs := run_equalIn_struct (P := P) w D t us.toArray vs.toArray (by rw [hfl]; exact hu) (by simpa using hst)
          have hv : ∀ x : List Value, valT P t x = .agg x.toArray := fun x => by simp [valT, hu]
          rw [hv, hv, hrs, hfl]
          clear hrs hv hfl
          -- field by field
          have key : ∀ (l : List Field) (off : Nat) (es : List (Option IntKind)), flatFs P (flatK P d) l off = some es → ∀ (us vs : List Value), kOk es (us.drop off) = true → kOk es (vs.drop off) = true → off ≤ us.length → off ≤ vs.length →
              (Op.eqFields D us.toArray vs.toArray l).run P w = .ok (eqVs (us.drop off) (vs.drop off)) w := by
            intro l
            induction l with
            | nil =>
              intro off es he us vs h1 h2 _ _
              simp only [flatFs, Option.some.injEq] at he
              subst he
              have e1 := kOk_length h1
              have e2 := kOk_length h2
              rw [List.length_eq_zero_iff.1 e1, List.length_eq_zero_iff.1 e2]
              simp [Op.eqFields, eqVs]
            | cons f l ihl =>
              intro off es he us vs h1 h2 hl1 hl2
              simp only [flatFs] at he
              split at he
              · cases he
              · rename_i hname
                split at he
                · rename_i ds0 hd0
                  split at he
                  · rename_i hsz
                    simp only [Option.map_eq_some_iff] at he
                    obtain ⟨es', hes, rfl⟩ := he
                    have hag := flatK_ag hd0
                    have hn : f.name ≠ "_" := fun e => hname (.inl e)
                    have hoff : f.offset = off := Decidable.byContradiction fun e => hname (.inr e)
                    have lu := kOk_length h1
                    have lv := kOk_length h2
                    simp only [List.length_drop, List.length_append] at lu lv
                    have a1 := kOk_append h1
                    have a2 := kOk_append h2
                    have p1 := run_partT (P := P) (w := w) hag.1 hsz hag.2 (us := us) (off := off) (by omega)
                    have p2 := run_partT (P := P) (w := w) hag.1 hsz hag.2 (us := vs) (off := off) (by omega)
                    have heq := ih f.type ds0 hd0 D (by omega) _ _ w a1.1 a2.1
                    have hrec := ihl (off + ds0.length) es' hes us vs (by rw [← List.drop_drop]; exact a1.2) (by rw [← List.drop_drop]; exact a2.2) (by omega) (by omega)
                    rw [eqVs_split h1 h2]
                    simp only [Op.eqFields, if_pos hn, Sem.run_bind, hoff, p1, p2, Result.andThen_ok, heq, Sem.run_ite, Sem.run_pure, hrec]
                    rw [List.drop_drop, List.drop_drop]
                    cases eqVs ((us.drop off).take ds0.length) ((vs.drop off).take ds0.length) <;> simp
                  · cases he
                · cases he
          have := key fs.toList 0 ds h us vs (by simpa using hus) (by simpa using hvs) (by omega) (by omega)
          simpa using this
      case array len e =>
        split at h
        · rename_i ds0 hd0
          split at h
          · rename_i hsz
            simp only [Option.some.injEq] at h
            subst h
            have hag := flatK_ag hd0
            have hv : ∀ x : List Value, valT P t x = .agg x.toArray := fun x => by simp [valT, hu]
            rw [hv, hv]
            simp only [Op.equalIn, Sem.run_bind, run_under P w hu, Result.andThen_ok, run_size P w hsz]
            simp only [Std.Legacy.Range.forIn_eq_forIn_range', Std.Legacy.Range.size]
            have key : ∀ (m s : Nat) (us vs : List Value), kOk (List.replicate m ds0).flatten (us.drop (s * ds0.length)) = true → kOk (List.replicate m ds0).flatten (vs.drop (s * ds0.length)) = true → s * ds0.length ≤ us.length → s * ds0.length ≤ vs.length →
                (forIn (List.range' s m 1) ((none, ()) : Option Bool × Unit) (fun i r => do
                  let a ← part e us.toArray (i * ds0.length)
                  let b ← part e vs.toArray (i * ds0.length)
                  let q ← Op.equalIn D e a b
                  if (!q) = true then pure (.done (some false, ())) else pure (.yield (none, ()))) : Sem (Option Bool × Unit)).run P w =
                .ok (if eqVs (us.drop (s * ds0.length)) (vs.drop (s * ds0.length)) then (none, ()) else (some false, ())) w := by
              intro m
              induction m with
              | zero =>
                intro s us vs h1 h2 _ _
                have e1 := kOk_length h1
                have e2 := kOk_length h2
                simp only [List.replicate_zero, List.flatten_nil, List.length_nil] at e1 e2
                rw [List.length_eq_zero_iff.1 e1, List.length_eq_zero_iff.1 e2]
                simp [eqVs]
              | succ m ihm =>
                intro s us vs h1 h2 hl1 hl2
                rw [List.replicate_succ, List.flatten_cons] at h1 h2
                have lu := kOk_length h1
                have lv := kOk_length h2
                simp only [List.length_drop, List.length_append] at lu lv
                have a1 := kOk_append h1
                have a2 := kOk_append h2
                have p1 := run_partT (P := P) (w := w) hag.1 hsz hag.2 (us := us) (off := s * ds0.length) (by omega)
                have p2 := run_partT (P := P) (w := w) hag.1 hsz hag.2 (us := vs) (off := s * ds0.length) (by omega)
                have heq := ih e ds0 hd0 D (by omega) _ _ w a1.1 a2.1
                have e3 : (s + 1) * ds0.length = s * ds0.length + ds0.length := by rw [Nat.succ_mul]
                have hrec := ihm (s + 1) us vs (by rw [e3, ← List.drop_drop]; exact a1.2) (by rw [e3, ← List.drop_drop]; exact a2.2) (by omega) (by omega)
                rw [eqVs_split h1 h2]
                simp only [List.range'_succ, List.forIn_cons, Sem.run_bind, p1, p2, Result.andThen_ok, heq, Sem.run_ite, Sem.run_pure]
                rw [List.drop_drop, List.drop_drop, ← e3]
                cases eqVs ((us.drop (s * ds0.length)).take ds0.length) ((vs.drop (s * ds0.length)).take ds0.length)
                · simp
                · simp only [Bool.not_true, Bool.false_eq_true, if_false, Result.andThen_ok, Bool.true_and]
                  exact hrec
            have := key len 0 us vs (by simpa using hus) (by simpa using hvs) (by omega) (by omega)
            simp only [Nat.zero_mul, List.drop_zero] at this
            simp only [Nat.sub_zero, Nat.add_sub_cancel, Nat.div_one]
            rw [this]
            cases eqVs us vs <;> simp
          · cases h
        · cases h

theorem litCells_RC {w : World} {imm : Nat → Prop} {ρ : Nat → Cn} : ∀ {cs : List AV} {us vs : List Value}, litCells cs = some us → RC w imm ρ cs vs → vs = us
  | [], us, [], h, _ => by simp [litCells] at h; exact h.symm
  | c :: cs, us, v :: vs, h, hr => by
    cases c with
    | v x =>
      simp only [litCells, Option.map_eq_some_iff] at h
      obtain ⟨us', h1, rfl⟩ := h
      rw [litCells_RC h1 hr.2, RA_v hr.1]
    | _ => simp [litCells] at h
  | [], _, _ :: _, _, hr => hr.elim
  | _ :: _, _, [], _, hr => hr.elim

theorem snd_eqa {neg : Bool} {t ty : TypeId} {x y : Operand} {x' y' : Opd} {ds : List (Option IntKind)} (ho : o.op = .binOp (if neg then .neq else .eql) t x y ty) (hu : (∃ fs, P.underlying t = some (.struct fs)) ∨ ∃ m e, P.underlying t = some (.array m e))
    (hg : P.eqGuardType P.depth t = false) (hds : flatK P 20 t = some ds) (hx : opdOf x = some x') (hy : opdOf y = some y') (hF : ∀ f, F.fn f) (h : Real E A sl hp ρ imm a w) (hd : dstOk E o.dst)
    (hs : opSem P E.gl (ev E.gl sl) hp j (.eqa neg ds x' y') K) : o.wpIn F n P a w (Post E A sl hp o.dst j K) Q := by
  simp only [opSem] at hs
  split at hs
  · rename_i cs es he he'
    split at hs
    · rename_i us vs hcs hes
      obtain ⟨k1, k2, hk⟩ := hs
      obtain ⟨h1, _⟩ := ev_RS h hx
      obtain ⟨h2, _⟩ := ev_RS h hy
      rw [he] at h1
      rw [he'] at h2
      obtain ⟨us', e1, hr1⟩ := RS.agg h1
      obtain ⟨vs', e2, hr2⟩ := RS.agg h2
      rw [litCells_RC hcs hr1] at e1
      rw [litCells_RC hes hr2] at e2
      have hval : ∀ z : List Value, valT P t z = .agg z.toArray := fun z => by
        rcases hu with ⟨fs, hu⟩ | ⟨m, e, hu⟩ <;> simp [valT, hu]
      have hq : (Op.equal t (.agg us.toArray) (.agg vs.toArray)).run P w = .ok (eqVs us vs) w := by
        have := run_flat (P := P) 20 t ds hds 10000 (by omega) us vs w k1 k2
        rw [hval, hval] at this
        exact this
      refine snd_pure (by simp [ho]) hF h hd (v := .bool (if neg then !eqVs us vs else eqVs us vs)) ?_ (RS_mkv rfl) okC_v1 hk
      have hgd : ∀ op, (eqGuard op t x y (.agg us.toArray) (.agg vs.toArray)).run P w = .ok () w := fun op => run_eqGuard_agg w op t x y _ _ hg
      cases neg
      · simp only [Bool.false_eq_true, if_false] at ho
        simp only [execOp, ho, e1, e2, Sem.run_bind, hgd, Result.andThen_ok, binOp, hq, Sem.run_pure]
        rfl
      · simp only [if_true] at ho
        simp only [execOp, ho, e1, e2, Sem.run_bind, hgd, Result.andThen_ok, binOp, hq, Sem.run_pure]
        rfl
    · exact hs.elim
  · exact hs.elim

/-! ### maps -/
theorem run_getMap {w : World} {b : Nat} {es : Array MapEntry} {cl : Nat} (h : w.heap[b]? = some (.map es cl)) : (getObj b).run P w = .ok (.map es cl) w := by
  simp [getObj, Sem.run, h]
theorem run_setMap {w : World} {b : Nat} {es : Array MapEntry} {cl : Nat} {o : Obj} (h : w.heap[b]? = some (.map es cl)) : (setObj b o).run P w = .ok () (setBlk w b o) := by
  simp [setObj, Sem.run, h, setBlk]

/-- a key of such a type may be used -/
theorem run_checkFlat {emp : Bool} : ∀ (d : Nat) (t : TypeId) (ds : List (Option IntKind)), flatK P d t = some ds → ∀ (D : Nat), d ≤ D → ∀ (us : List Value) (w : World), kOk ds us = true →
    (Instr.checkKey emp D t (valT P t us)).run P w = .ok () w := by
  intro d
  induction d with
  | zero => intro t ds h; simp [flatK] at h
  | succ d ih =>
    intro t ds h D hD us w hus
    obtain ⟨D, rfl⟩ : ∃ D', D = D' + 1 := ⟨D - 1, by omega⟩
    simp only [flatK] at h
    cases hu : P.underlying t with
    | none => simp [hu] at h
    | some dd =>
      rw [hu] at h
      cases dd <;> simp only [] at h <;> try (cases h; done)
      case int k => simp [Instr.checkKey, run_under P w hu]
      case bool => simp [Instr.checkKey, run_under P w hu]
      case struct fs =>
        split at h
        · cases h
        · have hv : valT P t us = .agg us.toArray := by simp [valT, hu]
          rw [hv]
          simp only [Instr.checkKey, Sem.run_bind, run_under P w hu, Result.andThen_ok]
          rw [← Array.forIn_toList]
          have key : ∀ (l : List Field) (off : Nat) (es : List (Option IntKind)), flatFs P (flatK P d) l off = some es → kOk es (us.drop off) = true → off ≤ us.length →
              (forIn l PUnit.unit (fun (f : Field) (_ : PUnit) => do
                if f.name ≠ "_" then
                  Instr.checkKey emp D f.type (← part f.type us.toArray f.offset)
                  pure (.yield PUnit.unit)
                else pure (.yield PUnit.unit)) : Sem PUnit).run P w = .ok PUnit.unit w := by
            intro l
            induction l with
            | nil => intro off es _ _ _; simp
            | cons f l ihl =>
              intro off es he h1 hl1
              simp only [flatFs] at he
              split at he
              · cases he
              · rename_i hname
                split at he
                · rename_i ds0 hd0
                  split at he
                  · rename_i hsz
                    simp only [Option.map_eq_some_iff] at he
                    obtain ⟨es', hes, rfl⟩ := he
                    have hag := flatK_ag hd0
                    have hn : f.name ≠ "_" := fun e => hname (.inl e)
                    have hoff : f.offset = off := Decidable.byContradiction fun e => hname (.inr e)
                    have lu := kOk_length h1
                    simp only [List.length_drop, List.length_append] at lu
                    have a1 := kOk_append h1
                    have p1 := run_partT (P := P) (w := w) hag.1 hsz hag.2 (us := us) (off := off) (by omega)
                    have hck := ih f.type ds0 hd0 D (by omega) _ w a1.1
                    have hrec := ihl (off + ds0.length) es' hes (by rw [← List.drop_drop]; exact a1.2) (by omega)
                    simp only [List.forIn_cons, if_pos hn, Sem.run_bind, hoff, p1, Result.andThen_ok, hck, Sem.run_pure, hrec]
                  · cases he
                · cases he
          have := key fs.toList 0 ds h (by simpa using hus) (by omega)
          simp at this ⊢
          rw [this]
          rfl
      case array len e =>
        split at h
        · rename_i ds0 hd0
          split at h
          · rename_i hsz
            simp only [Option.some.injEq] at h
            subst h
            have hag := flatK_ag hd0
            have hv : valT P t us = .agg us.toArray := by simp [valT, hu]
            rw [hv]
            simp only [Instr.checkKey, Sem.run_bind, run_under P w hu, Result.andThen_ok]
            simp only [Std.Legacy.Range.forIn_eq_forIn_range', Std.Legacy.Range.size]
            have key : ∀ (m s : Nat), kOk (List.replicate m ds0).flatten (us.drop (s * ds0.length)) = true → s * ds0.length ≤ us.length →
                (forIn (List.range' s m 1) PUnit.unit (fun (i : Nat) (_ : PUnit) => do
                  Instr.checkKey emp D e (← part e us.toArray (i * (← sizeOf e)))
                  pure (.yield PUnit.unit)) : Sem PUnit).run P w = .ok PUnit.unit w := by
              intro m
              induction m with
              | zero => intro s _ _; simp
              | succ m ihm =>
                intro s h1 hl1
                rw [List.replicate_succ, List.flatten_cons] at h1
                have lu := kOk_length h1
                simp only [List.length_drop, List.length_append] at lu
                have a1 := kOk_append h1
                have p1 := run_partT (P := P) (w := w) hag.1 hsz hag.2 (us := us) (off := s * ds0.length) (by omega)
                have hck := ih e ds0 hd0 D (by omega) _ w a1.1
                have e3 : (s + 1) * ds0.length = s * ds0.length + ds0.length := by rw [Nat.succ_mul]
                have hrec := ihm (s + 1) (by rw [e3, ← List.drop_drop]; exact a1.2) (by omega)
                simp only [List.range'_succ, List.forIn_cons, Sem.run_bind, run_size P w hsz, p1, Result.andThen_ok, hck, Sem.run_pure]
                exact hrec
            have := key len 0 (by simpa using hus) (by omega)
            simp only [Nat.sub_zero, Nat.add_sub_cancel, Nat.div_one]
            simp at this ⊢
            rw [this]
            rfl
          · cases h
        · cases h

theorem run_findKey {t : TypeId} {ds : List (Option IntKind)} {us : List Value} (hst : isStruct P t = true) (hds : flatK P 20 t = some ds) (hus : kOk ds us = true) (w : World) : ∀ (ks : List (List Value)) (es : List MapEntry), keyOk ks es → (∀ k ∈ ks, kOk ds k = true) →
    ∃ r, (Instr.findKey t (.agg us.toArray) es).run P w = .ok r w ∧ (hasKey ks us = true → ∃ i, r = some (i, .bool true)) ∧ (hasKey ks us = false → r = none) := by
  intro ks es hk hks
  unfold isStruct at hst
  have hval : ∀ z : List Value, valT P t z = .agg z.toArray := fun z => by
    unfold valT
    split at hst
    · rename_i fs hu; simp [hu]
    · cases hst
  have ask : ∀ (ks : List (List Value)) (es : List MapEntry) (i : Nat), keyOk ks es → (∀ k ∈ ks, kOk ds k = true) →
      ∃ r, (Instr.findAsking t (.agg us.toArray) es i).run P w = .ok r w ∧ (hasKey ks us = true → ∃ i, r = some (i, .bool true)) ∧ (hasKey ks us = false → r = none) := by
    intro ks
    induction ks with
    | nil =>
      intro es i hk _
      cases es with
      | nil => exact ⟨none, by simp [Instr.findAsking], by simp [hasKey], fun _ => rfl⟩
      | cons e es => exact hk.elim
    | cons k ks ih =>
      intro es i hk hks
      cases es with
      | nil => exact hk.elim
      | cons e es =>
        obtain ⟨⟨hke, hve⟩, hrest⟩ := hk
        have hq : (Op.equal t (.agg us.toArray) e.key).run P w = .ok (eqVs us k) w := by
          have := run_flat (P := P) 20 t ds hds 10000 (by omega) us k w hus (hks k (by simp))
          rw [hval, hval] at this
          rw [hke]
          exact this
        obtain ⟨r, h1, h2, h3⟩ := ih es (i + 1) hrest (fun k hk => hks k (by simp [hk]))
        by_cases hb : eqVs us k = true
        · refine ⟨some (i, e.val), by simp [Instr.findAsking, hq, hb], fun _ => ⟨i, by rw [hve]⟩, fun hc => ?_⟩
          simp [hasKey, hb] at hc
        · have hb' : eqVs us k = false := by simpa using hb
          refine ⟨r, by simp [Instr.findAsking, hq, hb', h1], fun hc => h2 ?_, fun hc => h3 ?_⟩
          · simpa [hasKey, hb'] using hc
          · simpa [hasKey, hb'] using hc
  split at hst
  · rename_i fs hu
    unfold Instr.findKey
    simp only [Sem.run_bind, run_under P w hu, Result.andThen_ok]
    cases es with
    | nil =>
      cases ks with
      | nil => exact ⟨none, by simp [Instr.findNow], by simp [hasKey], fun _ => rfl⟩
      | cons k ks => exact hk.elim
    | cons e es =>
      have : Instr.findNow (.struct fs) (.agg us.toArray) (e :: es) 0 = none := by simp [Instr.findNow, Instr.sameNow]
      simp only [this]
      exact ask ks (e :: es) 0 hk hks
  · cases hst
end Go.Proofs.YtlbafapmhjfobaaGreatDoor
namespace Go.Proofs.YtlbafapmhjfobaaGreatDoor
variable {P : Program} {E : Env} {F : Fence} {n : Nat} {A : Nat → Prop} {sl : Nat → SV} {hp : Nat → Option HE} {ρ : Nat → Cn} {imm : Nat → Prop} {a : Act} {w : World} {j : Nat}
  {K : SV → List (Nat × Option HE) → Prop} {Q : Exit → Act → World → Prop} {o : Oper}

theorem snd_mkmap {t : TypeId} {ds : List (Option IntKind)} (ho : o.op = .makeMap t none) (hF : ∀ f, F.fn f) (h : Real E A sl hp ρ imm a w) (hj : ¬ A j) (hd : dstOk E o.dst)
    (hs : opSem P E.gl (ev E.gl sl) hp j (.mkmap ds) K) : o.wpIn F n P a w (Post E A sl hp o.dst j K) Q := by
  refine ⟨fun f _ => hF f, ?_⟩
  rw [Oper.semAt_eq _ _ _ (by simp [ho])]
  have hrun : (execOp a.eval o).run P w = .ok (.value (.map (some w.heap.size))) { w with heap := w.heap.push (.map #[] 0) } := by
    simp [execOp, ho, Instr.makeMap]
  rw [hrun]
  refine ⟨_, _, upd ρ j ⟨w.heap.size, .slice none 0 0, 0, 0⟩, imm, hs, ?_⟩
  refine h.new hj hd rfl (by simp [HE.cells]) ?_ (fun _ => rfl) ?_ ?_
  · exact ⟨#[], 0, heap_push_new _ _, trivial, by simp⟩
  · exact .mk1 (by simp only [RA, upd_same])
  · intro x hx b hb
    simp only [SV.cells, List.mem_singleton] at hx
    subst hx
    simp only [AV.id?, Option.some.injEq] at hb
    subst hb
    exact ⟨.inr rfl, fun k xs hk => by rw [upd_same] at hk; cases hk⟩

theorem boolZ_zero {t : TypeId} (w : World) (h : boolZ P t = true) : (zeroValue t).run P w = .ok (.bool false) w := by
  unfold boolZ at h
  cases hi : P.info? t with
  | none => simp [hi] at h
  | some i =>
    simp only [hi] at h
    cases hz : i.zero with
    | none => simp [hz] at h
    | some v =>
      simp only [hz] at h
      cases v with
      | bool b =>
        cases b
        · simp [zeroValue, run_info P w hi, hz]
        · cases h
      | _ => cases h

theorem snd_lkmap {t kt et : TypeId} {x i : Operand} {x' i' : Opd} {ds : List (Option IntKind)} (ho : o.op = .lookup t x i false) (hu : P.underlying t = some (.map kt et)) (hb : boolZ P et = true) (hst : isStruct P kt = true) (hds : flatK P 20 kt = some ds)
    (hx : opdOf x = some x') (hi : opdOf i = some i') (hF : ∀ f, F.fn f) (h : Real E A sl hp ρ imm a w) (hd : dstOk E o.dst)
    (hs : opSem P E.gl (ev E.gl sl) hp j (.lkmap ds x' i') K) : o.wpIn F n P a w (Post E A sl hp o.dst j K) Q := by
  simp only [opSem] at hs
  split at hs
  · rename_i b cs he he'
    split at hs
    · rename_i ds' ks us hhb hcs
      obtain ⟨rfl, hk, hkk⟩ := hs
      obtain ⟨h1, _⟩ := ev1 h hx he
      have h1 : a.eval x = .map (some (ρ b).blk) := h1
      obtain ⟨h2, _⟩ := ev_RS h hi
      rw [he'] at h2
      obtain ⟨us', e1, hr1⟩ := RS.agg h2
      rw [litCells_RC hcs hr1] at e1
      obtain ⟨es, cl, g1, g2, g3⟩ := h.heap b _ hhb
      obtain ⟨r, f1, f2, f3⟩ := run_findKey (P := P) hst hds hk w ks es.toList g2 g3
      have hval : valT P kt us = .agg us.toArray := by
        unfold isStruct at hst
        unfold valT
        split at hst
        · rename_i fs hu'; simp [hu']
        · cases hst
      have hck := run_checkFlat (P := P) (emp := es.isEmpty) 20 kt ds' hds 10000 (by omega) us w hk
      rw [hval] at hck
      refine snd_pure (by simp [ho]) hF h hd (v := .bool (hasKey ks us)) ?_ (RS_mkv rfl) okC_v1 hkk
      simp only [execOp, ho, h1, e1, Sem.run_bind, Instr.lookup, run_under P w hu, Result.andThen_ok, run_getMap g1, Sem.run_pure, hck, f1]
      cases hb2 : hasKey ks us with
      | true => obtain ⟨q, rfl⟩ := f2 hb2; simp
      | false => rw [f3 hb2]; simp [boolZ_zero w hb]
    · exact hs.elim
  · exact hs.elim

theorem snd_upmap {t kt et : TypeId} {x i v : Operand} {x' i' v' : Opd} {ds : List (Option IntKind)} (ho : o.op = .mapUpdate t x i v) (hu : P.underlying t = some (.map kt et)) (hst : isStruct P kt = true) (hds : flatK P 20 kt = some ds)
    (hx : opdOf x = some x') (hi : opdOf i = some i') (hv : opdOf v = some v') (hF : ∀ f, F.fn f) (h : Real E A sl hp ρ imm a w) (hd : dstOk E o.dst)
    (hs : opSem P E.gl (ev E.gl sl) hp j (.upmap ds x' i' v') K) : o.wpIn F n P a w (Post E A sl hp o.dst j K) Q := by
  simp only [opSem] at hs
  split at hs
  · rename_i b cs he he' he''
    split at hs
    · rename_i ds' ks us hhb hcs
      obtain ⟨rfl, hk, hno, hkk⟩ := hs
      obtain ⟨h1, _⟩ := ev1 h hx he
      have h1 : a.eval x = .map (some (ρ b).blk) := h1
      obtain ⟨h2, _⟩ := ev_RS h hi
      rw [he'] at h2
      obtain ⟨us', e1, hr1⟩ := RS.agg h2
      rw [litCells_RC hcs hr1] at e1
      have e2 := evv1 h hv he''
      obtain ⟨es, cl, g1, g2, g3⟩ := h.heap b _ hhb
      obtain ⟨r, f1, f2, f3⟩ := run_findKey (P := P) hst hds hk w ks es.toList g2 g3
      rw [f3 hno] at f1
      have hval : valT P kt us = .agg us.toArray := by
        unfold isStruct at hst
        unfold valT
        split at hst
        · rename_i fs hu'; simp [hu']
        · cases hst
      have hck := run_checkFlat (P := P) (emp := false) 20 kt ds' hds 10000 (by omega) us w hk
      rw [hval] at hck
      have hblk : (ρ b).blk < w.heap.size := (Array.getElem?_eq_some_iff.1 g1).1
      refine ⟨fun f _ => hF f, ?_⟩
      rw [Oper.semAt_eq _ _ _ (by simp [ho])]
      have hrun : (execOp a.eval o).run P w = .ok .skip (setBlk w (ρ b).blk (.map (es.push { key := .agg us.toArray, val := .bool true, born := cl }) (cl + 1))) := by
        simp only [execOp, ho, h1, e1, e2, Sem.run_bind, Instr.mapUpdate, run_under P w hu, Result.andThen_ok, run_getMap g1, hck, f1, run_setMap g1, Sem.run_pure]
      rw [hrun]
      refine ⟨_, _, ρ, imm, hkk, ?_⟩
      refine (h.write (out := .top) (v := undef) (he := .keys ds' ks) (he' := .keys ds' (ks ++ [us])) hd hhb trivial (fun k xs hk => by cases hk) (fun k xs hk => by cases hk) (fun _ h => by cases h) rfl (fun x hx => by simp [HE.cells] at hx) ?_ trivial (fun x hx => by simp [SV.cells] at hx)).weakA fun _ h => .inl h
      refine ⟨_, _, by rw [setBlk_heap]; simp [hblk]; exact ⟨rfl, rfl⟩, ?_, ?_⟩
      · simp only [Array.toList_push]
        exact g2.append ⟨⟨rfl, rfl⟩, trivial⟩
      · intro k hk'
        rcases List.mem_append.1 hk' with hk' | hk'
        · exact g3 k hk'
        · simp only [List.mem_singleton] at hk'; subst hk'; exact hk
    · exact hs.elim
  · exact hs.elim

theorem wrap_small {x : Int} (h0 : 0 ≤ x) (h1 : x ≤ 4294967296) : IntKind.i64.wrap x = x := by
  rw [IntKind.wrap_i64]; omega

theorem repl_get {α : Type} (z : List α) : ∀ (m i : Nat), i < m * z.length → (List.replicate m z).flatten[i]? = z[i % z.length]?
  | 0, i, h => by simp at h
  | m + 1, i, h => by
    rw [Nat.succ_mul] at h
    rw [List.replicate_succ, List.flatten_cons]
    by_cases hi : i < z.length
    · rw [List.getElem?_append_left hi, Nat.mod_eq_of_lt hi]
    · rw [List.getElem?_append_right (by omega), repl_get z m (i - z.length) (by omega)]
      congr 1
      rw [← Nat.mod_eq_sub_mod (by omega)]

theorem snd_mkslice {t e : TypeId} {l c : Operand} {l' c' : Opd} {i : TypeInfo} {z : List AV} (ho : o.op = .makeSlice t l c) (hu : P.underlying t = some (.slice e)) (hi : P.info? e = some i) (hz : zeroOf P e = some z) (hsz : i.size = z.length ∧ 0 < i.size)
    (hl : opdOf l = some l') (hc : opdOf c = some c') (hF : ∀ f, F.fn f) (h : Real E A sl hp ρ imm a w) (hj : ¬ A j) (hd : dstOk E o.dst)
    (hs : opSem P E.gl (ev E.gl sl) hp j (.mkslice i.bytes z l' c') K) : o.wpIn F n P a w (Post E A sl hp o.dst j K) Q := by
  simp only [opSem] at hs
  split at hs
  · rename_i m m' he he'
    obtain ⟨rfl, h0, hbig, hby, hk⟩ := hs
    unfold big at hbig
    have e1 := evv1 h hl he
    have e2 := evv1 h hc he'
    obtain ⟨zv, hzv, hze, hok, _⟩ := run_zero P w hz
    have hzl : zv.cells.size = i.size := by rw [hsz.1, hze]; simp
    have hsz' : szOf P e = some i.size := by simp [szOf, hi]
    have hw := wrap_small h0 (by omega : m ≤ 4294967296)
    have hlim : ¬ ((i.bytes : Int) * m > 2 ^ 48) := by
      have : (i.bytes : Int) * m ≤ 1024 * 1073741824 := Int.mul_le_mul (by omega) hbig h0 (by omega)
      omega
    have hneg : ¬ m < 0 := by omega
    let us : List Value := (List.replicate m.toNat zv.cells.toList).flatten
    have hcells : ((Array.range (m.toNat * i.size)).map (fun q => zv.cells[q % zv.cells.size]!)) = us.toArray := by
      apply Array.ext'
      apply List.ext_getElem?
      intro q
      have hul : us.length = m.toNat * i.size := by simp [us, hzl]
      by_cases hq : q < m.toNat * i.size
      · have := repl_get zv.cells.toList m.toNat q (by simpa [hzl] using hq)
        show _ = us[q]?
        rw [this]
        have hmod : q % zv.cells.size < zv.cells.size := Nat.mod_lt _ (by omega)
        simp [hq, hmod]
      · rw [List.getElem?_eq_none (by simpa using Nat.le_of_not_lt hq), List.getElem?_eq_none (by rw [List.toList_toArray, hul]; omega)]
    have hrun : (execOp a.eval o).run P w = .ok (.value (.slice (some ⟨w.heap.size, 0, none⟩) m.toNat m.toNat)) { w with heap := w.heap.push (.cells us.toArray e) } := by
      simp only [execOp, ho, e1, e2, Sem.run_bind, Instr.makeSlice, run_under P w hu, Result.andThen_ok, asInt, asIntOf, Sem.run_pure, run_info P w hi, hw, Bool.or_eq_true, decide_eq_true_eq, hneg, hlim, false_or, or_false, Int.lt_irrefl, gt_iff_lt, if_false, run_askRoom, run_size P w hsz', hzv]
      by_cases hn0 : m.toNat * i.size = 0
      · have : us = [] := by
          have : us.length = 0 := by simp [us, hzl]; omega
          exact List.length_eq_zero_iff.1 this
        simp [hn0, newRow, this]
        have h0 : Array.map (fun (_ : Nat) => (default : Value)) (Array.range 0) = #[] := by apply Array.ext'; simp
        rw [h0]
      · simp only [hn0, if_false, Sem.run_bind, hzv, Result.andThen_ok, Sem.run_pure, newRow, run_newObj, hcells]
    refine snd_newrow (us := us) (m := m.toNat) (xs := List.replicate m.toNat z) (k := z.length) (e := e) (by simp [ho]) hF h hj hd hrun (by simp) (fun x hx => by rw [List.eq_of_mem_replicate hx]) ?_ hk
    have hzz : F2 (PR w imm) z zv.cells.toList := by rw [hze]; exact RC.pers (PR.lits (w := w) (imm := imm) (ρ := ρ) hok) (by simp [AV.pers])
    have : ∀ q, F2 (PR w imm) (List.replicate q z).flatten (List.replicate q zv.cells.toList).flatten := by
      intro q
      induction q with
      | zero => trivial
      | succ q ih => rw [List.replicate_succ, List.replicate_succ, List.flatten_cons, List.flatten_cons]; exact hzz.append ih
    exact this _
  · exact hs.elim

theorem upd_self {α : Type} (f : Nat → α) (i : Nat) (x : α) (h : f i = x) : upd f i x = f := by
  funext j
  simp only [upd_apply]
  split
  · rename_i e; rw [e, h]
  · rfl
theorem snd_clr {t e : TypeId} {x : Operand} {x' : Opd} {ats : Array TypeId} {k : Nat} {z : List AV} (ho : o.op = .call { callee := .builtin .clear, args := #[x], argTypes := ats }) (hat : ats[0]? = some t) (hue : P.underlying t = some (.slice e))
    (hsz : szOf P e = some k) (hz : zeroOf P e = some z) (hzk : z.length = k ∧ 0 < k) (hx : opdOf x = some x')
    (hF : ∀ f, F.fn f) (h : Real E A sl hp ρ imm a w) (hd : dstOk E o.dst)
    (hs : opSem P E.gl (ev E.gl sl) hp j (.clr k z x') K) : o.wpIn F n P a w (Post E A sl hp o.dst j K) Q := by
  have hne : ∀ c, o.op ≠ .defer c := by simp [ho]
  simp only [opSem] at hs
  split at hs
  · rename_i b q lo hi he
    obtain ⟨h1, _⟩ := ev1 h hx he
    split at hs
    · rename_i k' xs hb
      obtain ⟨⟨rfl, hq⟩, ⟨hlh, hhi⟩, hk⟩ := hs
      obtain ⟨f1, f2, f3, f4⟩ := h.heap b _ hb
      obtain ⟨zv, hzv, hze, hok, _⟩ := run_zero P w hz
      have hzl : zv.cells.size = k' := by rw [← hzk.1, hze]; simp
      have hv := h1.2 (by rw [hq, f1])
      have hRt : RS w imm ρ (.tup []) (.tuple #[]) := ⟨[], rfl, trivial⟩
      have none_to_do : lo = hi → (execOp a.eval o).run P w = .ok (.value (.tuple #[])) w → o.wpIn F n P a w (Post E A sl hp o.dst j K) Q := by
        intro he hrun
        refine ⟨fun f _ => hF f, ?_⟩
        rw [Oper.semAt_eq _ _ _ hne, hrun]
        refine ⟨_, _, ρ, imm, hk, ?_⟩
        have hxs : xs.take lo ++ (List.replicate (hi - lo) z ++ xs.drop hi) = xs := by subst he; simp
        have hh : putH hp [(b, some (.row k' (xs.take lo ++ (List.replicate (hi - lo) z ++ xs.drop hi))))] = hp := by
          rw [hxs]
          exact upd_self _ _ _ hb
        rw [hh]
        exact (h.put hd hRt (by simp [SV.cells])).weakA fun _ h => .inl h
      rcases f4 with ⟨f4, f5⟩ | ⟨cap, us, rest, el, f5, f6, f7, f8, f9⟩
      · rw [f5] at hv
        subst f4
        refine none_to_do (by simp at hhi; omega) ?_
        have hv : a.eval x = .slice none 0 0 := hv
        simp [execOp, ho, resolve, invoke, builtin, Builtin.clear_, hat, hv, run_under P w hue]
      · rw [f5, f2] at hv
        have hv : a.eval x = .slice (some (if cap = lo then ⟨(ρ b).blk, 0, none⟩ else ⟨(ρ b).blk, 0 + lo * k', none⟩)) (hi - lo) (cap - lo) := by
          rw [hv]; rfl
        by_cases hlt : lo = hi
        · refine none_to_do hlt ?_
          have h0 : hi - lo = 0 := by omega
          rw [h0] at hv
          simp [execOp, ho, resolve, invoke, builtin, Builtin.clear_, hat, hv, run_under P w hue]
        · have hcap : ¬ cap = lo := by omega
          rw [if_neg hcap] at hv
          obtain ⟨m, hm⟩ : ∃ m, hi - lo = m + 1 := ⟨hi - lo - 1, by omega⟩
          have hu : (HE.row k' xs).uses (ρ b) := by simp [HE.uses, f5]
          have hblk : (ρ b).blk < w.heap.size := (Array.getElem?_eq_some_iff.1 f8).1
          have hul := f9.length
          rw [row_len f3] at hul
          have hhk : hi * k' ≤ us.length := by rw [← hul]; exact Nat.mul_le_mul_right _ hhi
          have hmk : lo * k' + (hi - lo) * k' = hi * k' := by rw [← Nat.add_mul]; congr 1; omega
          let vs : List Value := (List.replicate (hi - lo) zv.cells.toList).flatten
          have hvl : vs.length = (hi - lo) * k' := by simp [vs, hzl]
          have hcells : (Builtin.zeroCells zv.cells (hi - lo)).toList = vs := by
            apply List.ext_getElem?
            intro p
            by_cases hp : p < (hi - lo) * k'
            · have := repl_get zv.cells.toList (hi - lo) p (by simpa [hzl] using hp)
              show _ = vs[p]?
              rw [this]
              have hmod : p % zv.cells.size < zv.cells.size := Nat.mod_lt _ (by omega)
              have hp2 : p < (hi - lo) * zv.cells.size := by rw [hzl]; exact hp
              simp [Builtin.zeroCells, hp2, hmod]
            · rw [List.getElem?_eq_none (by rw [zeros_size, hzl]; exact Nat.le_of_not_lt hp), List.getElem?_eq_none (by rw [hvl]; omega)]
          have hone : ∀ v ∈ vs, v.oneCell' = true := by
            intro v hv
            obtain ⟨l, hl, hv⟩ := List.mem_flatten.1 hv
            rw [List.eq_of_mem_replicate hl] at hv
            exact List.all_eq_true.1 hok v hv
          have hrun0 := run_storeFrom P vs (w := w) (b := (ρ b).blk) (o := 0 + lo * k') (i := 0) f8 (by simp only [List.length_append, hvl]; omega) hone
          have hrun : (execOp a.eval o).run P w = .ok (.value (.tuple #[])) (setBlk w (ρ b).blk (.cells ((us ++ rest).take (lo * k') ++ (vs ++ (us ++ rest).drop (hi * k'))).toArray el)) := by
            have e1 : 0 + lo * k' + 0 = lo * k' := by omega
            have e2 : 0 + lo * k' + 0 + vs.length = hi * k' := by rw [hvl]; omega
            rw [e2, e1] at hrun0
            simp only [Nat.zero_add] at hrun0
            have hcl := hcells
            rw [hm] at hcl hv
            simp [execOp, ho, resolve, invoke, builtin, Builtin.clear_, hat, hv, run_under P w hue, hzv, hcl, hrun0]
          refine ⟨fun f _ => hF f, ?_⟩
          rw [Oper.semAt_eq _ _ _ hne, hrun]
          refine ⟨_, _, ρ, imm, hk, ?_⟩
          have hnl : (xs.take lo ++ (List.replicate (hi - lo) z ++ xs.drop hi)).length = xs.length := by simp; omega
          refine (h.write (out := .tup []) (v := .tuple #[]) (he := .row k' xs) (he' := .row k' (xs.take lo ++ (List.replicate (hi - lo) z ++ xs.drop hi))) hd hb hu (fun k2 ys hk2 => by cases hk2; exact ⟨xs, rfl, hnl.symm⟩) (fun k2 ys hk2 => by cases hk2; exact ⟨_, rfl⟩) (fun _ h => by cases h) rfl (fun x hx => by simp [HE.cells] at hx) ?_ ⟨[], rfl, trivial⟩ (fun x hx => by simp [SV.cells] at hx)).weakA fun _ h => .inl h
          have hni := (h.used b _ hb hu).2.1
          have hz3 : ∀ x ∈ xs.take lo ++ (List.replicate (hi - lo) z ++ xs.drop hi), x.length = k' := by
            intro x hx
            simp only [List.mem_append] at hx
            rcases hx with hx | hx | hx
            · exact f3 x (List.mem_of_mem_take hx)
            · rw [List.eq_of_mem_replicate hx]; exact hzk.1
            · exact f3 x (List.mem_of_mem_drop hx)
          refine ⟨by rw [hnl]; exact f1, f2, hz3, .inr ⟨cap, us.take (lo * k') ++ (vs ++ us.drop (hi * k')), rest, el, by rw [hnl]; exact f5, by rw [hnl]; exact f6, ?_, ?_, ?_⟩⟩
          · simp only [List.length_append, List.length_take, List.length_drop, hvl]; omega
          · rw [setBlk_heap]
            simp only [if_true, hblk]
            congr 3
            rw [List.take_append_of_le_length (by omega), List.drop_append_of_le_length (by omega)]
            simp
          · have himm : ∀ x u, PR w imm x u → PR (setBlk w (ρ b).blk (.cells ((us ++ rest).take (lo * k') ++ (vs ++ (us ++ rest).drop (hi * k'))).toArray el)) imm x u := fun x u hq => PR.mono (imm := imm) (fun _ h => h) (setBlk_imm hni) hq
            rw [List.flatten_append, List.flatten_append, flat_take f3, flat_drop f3]
            have hzz : F2 (PR w imm) z zv.cells.toList := by rw [hze]; exact RC.pers (PR.lits (w := w) (imm := imm) (ρ := ρ) hok) (by simp [AV.pers])
            have hrep : ∀ q, F2 (PR w imm) (List.replicate q z).flatten (List.replicate q zv.cells.toList).flatten := by
              intro q
              induction q with
              | zero => trivial
              | succ q ih => rw [List.replicate_succ, List.replicate_succ, List.flatten_cons, List.flatten_cons]; exact hzz.append ih
            refine F2.mono (R := PR w imm) (fun x _ u hq => himm x u hq) ?_
            exact (F2.take _ f9).append ((hrep _).append (F2.drop _ f9))
    · exact hs.elim
  · exact hs.elim
end Go.Proofs.YtlbafapmhjfobaaGreatDoor
namespace Go.Proofs.YtlbafapmhjfobaaGreatDoor
variable {P : Program} {E : Env} {F : Fence} {n : Nat} {A : Nat → Prop} {sl : Nat → SV} {hp : Nat → Option HE} {ρ : Nat → Cn} {imm : Nat → Prop} {a : Act} {w : World} {j : Nat}
  {K : SV → List (Nat × Option HE) → Prop} {Q : Exit → Act → World → Prop} {o : Oper}

/-- a fence that lets everything in -/
structure WideF (F : Fence) : Prop where
  fn : ∀ f, F.fn f
  depth : F.depth = none
  calls : ∀ {P f args w R} (m : Nat), CallsIn Fence.wide 0 P f args w R → CallsIn F m P f args w R
theorem wideF_wide : WideF Fence.wide := ⟨fun _ => trivial, rfl, fun _ h => h.more (by omega)⟩
theorem wideF_round (l : Nat) : WideF (Fence.wide.inRound l) := ⟨fun _ => trivial, rfl, fun {P f args w R} m h => by
  have h' : CallsIn Fence.wide m P f args w R := h.more (by omega)
  exact h'⟩

theorem F2.comp {α β γ : Type} {R : α → β → Prop} {S : α → γ → Prop} {T : β → γ → Prop} : ∀ {xs : List α} {ys : List β} {zs : List γ}, (∀ x ∈ xs, ∀ y z, R x y → S x z → T y z) → F2 R xs ys → F2 S xs zs → F2 T ys zs
  | [], [], [], _, _, _ => trivial
  | x :: xs, y :: ys, z :: zs, h, h1, h2 => ⟨h x (by simp) y z h1.1 h2.1, F2.comp (fun x hx => h x (by simp [hx])) h1.2 h2.2⟩
  | [], _ :: _, _, _, h1, _ => h1.elim
  | [], [], _ :: _, _, _, h2 => h2.elim
  | _ :: _, [], _, _, h1, _ => h1.elim
  | _ :: _, _ :: _, [], _, _, h2 => h2.elim
theorem RA.idfree {w : World} {imm : Nat → Prop} {ρ ρ' : Nat → Cn} {x : AV} {u : Value} (hx : x.id? = none) (h : RA w imm ρ x u) : RA w imm ρ' x u := by
  cases x <;> first | (simp [AV.id?] at hx; done) | exact h
theorem RC.idfree {w : World} {imm : Nat → Prop} {ρ ρ' : Nat → Cn} {cs : List AV} {us : List Value} (hx : idFree cs) (h : RC w imm ρ cs us) : RC w imm ρ' cs us := F2.mono (fun x hxm _ h => h.idfree (hx x hxm)) h
/-- a value, cell by cell, in another world -/
theorem RS.via {w w' : World} {imm imm' : Nat → Prop} {ρ ρ' : Nat → Cn} {g : AV → AV} {s s' : SV} {u : Value} (hs : s' = match s with | .top => .top | .c ag cs => .c ag (cs.map g) | .tup xs => .tup (xs.map fun p => (p.1, p.2.map g)))
    (hc : ∀ x ∈ s.cells, ∀ v, RA w imm ρ x v → RA w' imm' ρ' (g x) v) (h : RS w imm ρ s u) : RS w' imm' ρ' s' u := by
  have hrc : ∀ (cs : List AV) (us : List Value), (∀ x ∈ cs, ∀ v, RA w imm ρ x v → RA w' imm' ρ' (g x) v) → RC w imm ρ cs us → RC w' imm' ρ' (cs.map g) us := by
    intro cs
    induction cs with
    | nil => intro us _ hr; cases us <;> exact hr
    | cons c cs ih =>
      intro us hcs hr
      cases us with
      | nil => exact hr.elim
      | cons u us => exact ⟨hcs c (by simp) u hr.1, ih us (fun x hx => hcs x (by simp [hx])) hr.2⟩
  subst hs
  cases s with
  | top => trivial
  | c ag cs => obtain ⟨us, h1, h2⟩ := h; exact ⟨us, hrc _ _ hc h1, h2⟩
  | tup xs =>
    obtain ⟨us, h1, h2⟩ := h
    refine ⟨us, h1, ?_⟩
    have : ∀ (xs : List (Bool × List AV)) (us : List Value), (∀ p ∈ xs, ∀ x ∈ p.2, ∀ v, RA w imm ρ x v → RA w' imm' ρ' (g x) v) → F2 (fun p u => RV w imm ρ p.1 p.2 u) xs us → F2 (fun p u => RV w' imm' ρ' p.1 p.2 u) (xs.map fun p => (p.1, p.2.map g)) us := by
      intro xs
      induction xs with
      | nil => intro us _ hr; cases us <;> exact hr
      | cons c cs ih =>
        intro us hcs hr
        cases us with
        | nil => exact hr.elim
        | cons u us =>
          obtain ⟨vs, h3, h4⟩ := hr.1
          exact ⟨⟨vs, hrc _ _ (hcs c (by simp)) h3, h4⟩, ih us (fun p hp => hcs p (by simp [hp])) hr.2⟩
    exact this xs us (fun p hp x hx => hc x (by simp only [SV.cells, List.mem_flatMap]; exact ⟨p, hp, hx⟩)) h2
theorem SV.map_id (s : SV) : s = match s with | .top => .top | .c ag cs => .c ag (cs.map fun x => x) | .tup xs => .tup (xs.map fun p => (p.1, p.2.map fun x => x)) := by
  cases s <;> simp
theorem RS.cellwise {w w' : World} {imm imm' : Nat → Prop} {ρ ρ' : Nat → Cn} {s : SV} {u : Value} (hc : ∀ x ∈ s.cells, ∀ v, RA w imm ρ x v → RA w' imm' ρ' x v) (h : RS w imm ρ s u) : RS w' imm' ρ' s u :=
  RS.via (g := fun x => x) (SV.map_id s) hc h

theorem sl_cases {A' : Nat → Prop} {hp' : Nat → Option HE} {w' : World} {imm' : Nat → Prop} {ρ' : Nat → Cn} {d : Option Nat} {res : SV} {v : Value} (h : Real E A sl hp ρ imm a w) (hd : dstOk E d) (hres : RS w' imm' ρ' res v) (hok : ∀ x ∈ res.cells, okC A' hp' x) (i : Nat) :
    (putS sl d res i = sl i ∧ (a.put d v).tmps.getD i undef = a.tmps.getD i undef) ∨ (RS w' imm' ρ' (putS sl d res i) ((a.put d v).tmps.getD i undef) ∧ ∀ x ∈ (putS sl d res i).cells, okC A' hp' x) := by
  cases d with
  | none => exact .inl ⟨rfl, rfl⟩
  | some d =>
    rw [put_getD _ _ _ _ (by rw [h.nt]; exact hd d rfl)]
    simp only [putS, upd_apply]
    by_cases hi' : i = d
    · simp only [hi', if_true]; exact .inr ⟨hres, hok⟩
    · simp only [hi', if_false]; exact .inl (by simp)

theorem snd_callS {f : Nat} {vs : List SV} {us : List Value} (hne : ∀ c, o.op ≠ .defer c) (hF : WideF F) (h : Real E A sl hp ρ imm a w) (hj : ¬ A j) (hd : dstOk E o.dst)
    (hrun : EntersP P f → (execOp a.eval o).run P w = .ok (.enter f us.toArray) w) (hr : F2 (RS w imm ρ) vs us) (hok : ∀ v ∈ vs, ∀ x ∈ v.cells, okC A hp x) (hs : CallS P E.gl hp j f vs K) :
    o.wpIn F n P a w (Post E A sl hp o.dst j K) Q := by
  have hpj : hp j = none := by
    cases hb : hp j with
    | none => rfl
    | some he => exact (hj (h.wf.idh j he hb).1).elim
  have enter : ∀ {R : Ending → World → Prop}, EntersP P f → CallsIn Fence.wide 0 P f us.toArray w R → (∀ e w', R e w' → ∃ v, e = .returned v ∧ Post E A sl hp o.dst j K (a.put o.dst v) w') → o.wpIn F n P a w (Post E A sl hp o.dst j K) Q := by
    intro R hen hc hR
    refine ⟨fun f _ => hF.fn f, ?_⟩
    rw [Oper.semAt_eq _ _ _ hne, hrun hen]
    refine ⟨fun hd => by simp [hF.depth] at hd, ?_⟩
    refine (hF.calls (n - 1) hc).mono fun e w' hh => ?_
    obtain ⟨v, rfl, hp⟩ := hR e w' hh
    exact hp
  cases hs with
  | pure as res hc hs hf hi hk =>
    let immc : Nat → Prop := fun x => imm x ∨ ∃ v ∈ vs, ∃ y ∈ v.cells, ∃ b m k xs, y = AV.own b m ∧ hp b = some (.row k xs) ∧ (HE.row k xs).uses (ρ b) ∧ x = (ρ b).blk
    have hlt : ∀ x, immc x → x < w.heap.size := by
      rintro x (hx | ⟨v, _, y, _, b, m, k, xs, _, hb, hu, rfl⟩)
      · exact h.immlt x hx
      · exact (h.used b _ hb hu).1
    have hsub : ∀ x, imm x → immc x := fun x hx => .inl hx
    have hargs : F2 (fun (p : Bool × List AV) u => RV w immc (fun _ => ⟨0, .nilFunc, 0, 0⟩) p.1 p.2 u) as us := by
      refine F2.comp (fun v hv p u h1 h3 => ?_) hc hr
      obtain ⟨cs, hvc, hcs⟩ := h1
      rw [hvc] at h3
      obtain ⟨ws, h4, h5⟩ := h3
      refine ⟨ws, F2.comp (fun c hcm d z h1 hz => ?_) hcs h4, h5⟩
      rcases h1 with ⟨rfl, hp1⟩ | ⟨k, rfl, rfl⟩ | ⟨b, m, k, xs, rfl, rfl, hb, hm'⟩
      · rw [RA.of_pers hp1] at hz ⊢
        exact hz.mono hsub (fun _ _ => rfl)
      · have := RA_v hz
        subst this
        exact .of_PR .linil
      · obtain ⟨g1, g2, g3, g4⟩ := h.heap b _ hb
        have hval := hz.2 (by rw [hm', g1])
        rcases g4 with ⟨rfl, g5⟩ | ⟨cap, us0, rest, e, g5, g6, g7, g8, g9⟩
        · rw [hval, g5]; exact .of_PR .linil
        · rw [hval, g5]
          have hu : (HE.row k xs).uses (ρ b) := by simp [HE.uses, g5]
          exact .of_PR (.mkli rfl g6 g3 (fun i hi => by rw [Nat.zero_add, cellsAt g8, List.getElem?_append_left hi]) (fun _ => .inr ⟨v, hv, _, by rw [hvc]; exact hcm, b, m, k, xs, rfl, hb, hu, rfl⟩) (F2.mono (fun _ _ _ hq => hq.mono hsub (fun _ _ => rfl)) g9))
    refine enter hs.1 (hs.2 w immc ⟨0, .nilFunc, 0, 0⟩ us hlt (fun g cs hg => (h.glob g cs hg).mono hsub (fun _ _ => rfl)) (fun he hhe => by cases hhe) hargs) ?_
    rintro e w' ⟨v, imm1, c1, rfl, r1, r2, r3, _, r5⟩
    refine ⟨v, rfl, res, [], ρ, (fun x => imm1 x ∧ (x < w.heap.size → imm x)), hk, ?_⟩
    have hext : Ext (fun _ => False) w w' := r5.mono (fun x hx => by obtain ⟨he, h1, _⟩ := hx; cases h1)
    have hblk : ∀ b, imm b → w'.heap[b]? = w.heap[b]? := fun b hb => hext.block b (h.immlt b hb) (fun h => h)
    refine h.go (b0 := j) (hp' := hp) (hpin := fun c hc => (hj (h.pin _ c hc).2.1).elim) (hpr := fun hA0 e => (hj (e ▸ hA0)).elim) (fun x hx => .inl hx) hext (fun x hx => hx.elim) (fun x hx => ⟨r2 x (hsub x hx), fun _ => hx⟩) (fun x hx => ⟨(r3 x hx.1).1, ?_⟩) (by rw [put_size]; exact h.nt) (put_defers _ _ _)
      (fun x u _ hra => hra.mono (fun x hx => ⟨r2 x (hsub x hx), fun _ => hx⟩) hblk) (fun x hx b hb => ⟨.inl (hx b hb).1, (hx b hb).2⟩) (fun i => ?_) (fun b _ => ⟨rfl, rfl⟩) (fun he hhe => by rw [hpj] at hhe; cases hhe)
    · by_cases hlt' : x < w.heap.size
      · exact .inl (hx.2 hlt')
      · exact .inr (.inl (by omega))
    · have hres : RS w' (fun x => imm1 x ∧ (x < w.heap.size → imm x)) ρ res v := by
        rcases hf with hf | hf
        · refine r1.cellwise (fun x hx u hra => ((hra.idfree (ρ' := ρ) (hi x hx)).mono (fun y hy => ⟨hy, fun hlt' => ?_⟩) (fun _ _ => rfl)))
          rcases (r3 y hy).2 with (h1 | ⟨v, hv, z, hz, b, m, k, xs, rfl, _⟩) | h1 | ⟨_, he, hhe, _⟩
          · exact h1
          · have := hf v hv _ hz; simp [isOwn] at this
          · omega
          · cases hhe
        · refine r1.cellwise (fun x hx u hra => ?_)
          obtain ⟨z, rfl⟩ := hf x hx
          have := RA_v hra
          subst this
          exact .of_PR (.v hra.one)
      exact sl_cases h hd hres (fun x hx => .none_id (hi x hx)) i
  | fresh as res he hc hs hn hi hl hk =>
    have hargs : F2 (fun (p : Bool × List AV) u => RV w imm (fun _ => ⟨0, .nilFunc, 0, 0⟩) p.1 p.2 u) as us := by
      refine F2.comp (fun v hv p u h1 h3 => ?_) hc hr
      obtain ⟨cs, hvc, hcs⟩ := h1
      rw [hvc] at h3
      obtain ⟨ws, h4, h5⟩ := h3
      refine ⟨ws, F2.comp (fun c hcm d z h1 hz => ?_) hcs h4, h5⟩
      rcases h1 with ⟨rfl, hp1⟩ | ⟨k, rfl, rfl⟩ | ⟨b, m, k, xs, rfl, rfl, hb, hm'⟩
      · rw [RA.of_pers hp1] at hz ⊢
        exact hz
      · have := RA_v hz
        subst this
        exact .of_PR .linil
      · have := hn v hv _ (by rw [hvc]; exact hcm)
        simp [isOwn] at this
    refine enter hs.1 (hs.2 w imm ⟨0, .nilFunc, 0, 0⟩ us h.immlt h.glob (fun he hhe => by cases hhe) hargs) ?_
    rintro e w' ⟨v, imm1, c1, rfl, r1, r2, r3, r4, r5⟩
    obtain ⟨q1, _, q3, q4⟩ := r4 he rfl
    have hext : Ext (fun _ => False) w w' := r5.mono (fun x hx => by obtain ⟨he, h1, _⟩ := hx; cases h1)
    have hblk : ∀ b, imm b → w'.heap[b]? = w.heap[b]? := fun b hb => hext.block b (h.immlt b hb) (fun h => h)
    have hres : RS w' imm1 (upd ρ j c1) (res.ren j) v := by
      refine r1.via (g := ren j) (by cases res <;> rfl) (fun x hx u hra => ?_)
      rcases hl x hx with h1 | ⟨k, xs, _, rfl⟩
      · have : ren j x = x := by cases x <;> simp_all [AV.id?, ren]
        rw [this]
        exact hra.idfree h1
      · simp only [RA, ren, upd_same] at hra ⊢
        exact hra
    have hokr : ∀ x ∈ (res.ren j).cells, okC (fun y => A y ∨ y = j) (upd hp j (some he)) x := by
      have hcells : ∀ x ∈ (res.ren j).cells, ∃ y ∈ res.cells, x = ren j y := by
        intro x hx
        cases res with
        | top => simp [SV.ren, SV.cells] at hx
        | c ag cs =>
          simp only [SV.ren, SV.cells, List.mem_map] at hx
          obtain ⟨y, hy, rfl⟩ := hx
          exact ⟨y, hy, rfl⟩
        | tup xs =>
          simp only [SV.ren, SV.cells, List.mem_flatMap, List.mem_map] at hx
          obtain ⟨p, ⟨q, hq, rfl⟩, hx⟩ := hx
          obtain ⟨y, hy, rfl⟩ := List.mem_map.1 hx
          exact ⟨y, by simp only [SV.cells, List.mem_flatMap]; exact ⟨q, hq, hy⟩, rfl⟩
      intro x hx
      obtain ⟨y, hy, rfl⟩ := hcells x hx
      rcases hl y hy with h1 | ⟨k, xs, rfl, rfl⟩
      · have : ren j y = y := by cases y <;> simp_all [AV.id?, ren]
        rw [this]; exact .none_id h1
      · intro b hb
        simp only [ren, AV.id?, Option.some.injEq] at hb
        subst hb
        refine ⟨.inr rfl, fun k' xs' hk' => ?_⟩
        rw [upd_same] at hk'
        cases hk'
        exact Nat.le_refl _
    refine ⟨v, rfl, res.ren j, [(j, some he)], upd ρ j c1, imm1, hk, ?_⟩
    refine h.go (b0 := j) (hp' := upd hp j (some he)) (hpin := fun c hc => (hj (h.pin _ c hc).2.1).elim) (hpr := fun hA0 e => (hj (e ▸ hA0)).elim) (fun x hx => .inl hx) hext (fun x hx => hx.elim) r2 (fun x hx => ⟨(r3 x hx).1, ?_⟩) (by rw [put_size]; exact h.nt) (put_defers _ _ _)
      (fun x u hx hra => (RA.upd (fun e => hj (hx j e).1) hra).mono r2 hblk) (fun x hx => hx.fresh hj) (fun i => ?_) (fun b hb => ⟨upd_ne _ _ hb, upd_ne _ _ hb⟩) (fun he' hhe => ?_)
    · rcases (r3 x hx).2 with h1 | h1 | ⟨h1, _⟩
      · exact .inl h1
      · exact .inr (.inl h1)
      · cases h1
    · exact sl_cases h hd hres hokr i
    · rw [upd_same] at hhe
      cases hhe
      simp only [upd_same]
      refine ⟨by simp, fun x hx => .none_id (hi x hx), ?_, fun hu => ⟨(q4 hu).1, (q4 hu).2, .inl (q3 rfl hu)⟩⟩
      cases he with
      | box cs => obtain ⟨us, e, h1, h2⟩ := q1; exact ⟨us, e, h1, h2.idfree hi⟩
      | row k xs => exact q1
      | keys t ks => exact q1
  | inout b he he' as res hb hi hi' hkind hin hc hs hrf hk =>
    have hold := h.heap b he hb
    have hargs : F2 (fun (p : Bool × List AV) u => RV w imm (fun _ => ρ b) p.1 p.2 u) as us := by
      refine F2.comp (fun v hv p u h1 h3 => ?_) hc hr
      obtain ⟨cs, hvc, hcs⟩ := h1
      rw [hvc] at h3
      obtain ⟨ws, h4, h5⟩ := h3
      refine ⟨ws, F2.comp (fun c hcm d z h1 hz => ?_) hcs h4, h5⟩
      rcases h1 with ⟨rfl, hp1⟩ | ⟨hid, rfl, _⟩
      · rw [RA.of_pers hp1] at hz ⊢
        exact hz
      · cases c <;> simp only [AV.id?, Option.some.injEq] at hid <;> first | (subst hid; exact hz) | cases hid
    have hrh : RH w imm (fun _ => ρ b) (ρ b) he := by
      cases he with
      | box cs => obtain ⟨us, e, h1, h2⟩ := hold; exact ⟨us, e, h1, h2.idfree hi⟩
      | row k xs => exact hold
      | keys t ks => exact hold
    refine enter hs.1 (hs.2 w imm (ρ b) us h.immlt h.glob (fun he1 hhe => by cases hhe; exact ⟨hrh, fun hu => ⟨(h.used b he hb hu).1, (h.used b he hb hu).2.1⟩⟩) hargs) ?_
    rintro e w' ⟨v, imm1, c1, rfl, r1, r2, r3, r4, r5⟩
    obtain ⟨q1, q2, _, q4⟩ := r4 he' rfl
    have hc1 : c1 = ρ b := (q2 he rfl).2 hkind
    subst hc1
    have huse : he'.uses (ρ b) → he.uses (ρ b) := by
      intro hu
      cases he <;> cases he' <;> simp only [HE.uses] at hu ⊢ <;> first | exact hu | trivial | exact (show False from hkind).elim
    have hext : Ext (fun x => he.uses (ρ b) ∧ x = (ρ b).blk) w w' := r5.mono (fun x hx => by obtain ⟨he1, h1, h2, h3⟩ := hx; cases h1; exact ⟨h2, h3⟩)
    have hblk : ∀ c, imm c → w'.heap[c]? = w.heap[c]? := fun c hc => hext.block c (h.immlt c hc) (fun hx => (h.used b he hb hx.1).2.1 (hx.2 ▸ hc))
    have hres : RS w' imm1 ρ res v := r1.cellwise (fun x hx u hra => hra.idfree (hrf x hx))
    have hok' : ∀ x, okC A hp x → okC (fun y => A y ∨ y = j) (upd hp b (some he')) x := by
      intro x hx c hcx
      obtain ⟨h1, h2⟩ := hx c hcx
      refine ⟨.inl h1, fun k xs hk' => ?_⟩
      by_cases hcb : c = b
      · subst hcb
        rw [upd_same] at hk'
        cases hk'
        cases he with
        | row k' ys =>
          have h3 := h2 k' ys hb
          simp only [sameKind] at hkind
          rw [← hkind.2]; exact h3
        | _ => exact (show False from hkind).elim
      · rw [upd_ne _ _ hcb] at hk'; exact h2 k xs hk'
    refine ⟨v, rfl, res, [(b, some he')], ρ, imm1, hk, ?_⟩
    refine h.go (b0 := b) (hp' := upd hp b (some he')) (hpin := fun c hpc => ⟨(h.pin _ c hpc).2.2.1, fun k xs hk => by
        rw [upd_same] at hk; cases hk
        cases he with
        | row k' ys => exact (h.pin _ c hpc).2.2.2 k' ys hb
        | _ => exact (show False from hkind).elim⟩) (hpr := fun _ e k xs hk => by
        subst e; rw [upd_same] at hk; cases hk
        cases he with
        | row k' ys => exact ⟨k', ys, hb, Nat.le_of_eq hkind.2, fun _ => rfl⟩
        | _ => exact (show False from hkind).elim) (fun x hx => .inl hx) hext (fun x hx => ⟨he, hb, hx.1, hx.2⟩) r2 (fun x hx => ⟨(r3 x hx).1, ?_⟩) (by rw [put_size]; exact h.nt) (put_defers _ _ _)
      (fun x u hx hra => hra.mono r2 hblk) hok' (fun i => ?_) (fun c hcb => ⟨upd_ne _ _ hcb, rfl⟩) (fun he1 hhe => ?_)
    · rcases (r3 x hx).2 with h1 | h1 | ⟨h1, _⟩
      · exact .inl h1
      · exact .inr (.inl h1)
      · cases h1
    · exact sl_cases h hd hres (fun x hx => .none_id (hrf x hx)) i
    · rw [upd_same] at hhe
      cases hhe
      refine ⟨.inl (h.wf.idh b he hb).1, fun x hx => .none_id (hi' x hx), ?_, fun hu => ⟨(q4 hu).1, (q4 hu).2, .inr ⟨he, hb, huse hu, rfl⟩⟩⟩
      cases he' with
      | box cs => obtain ⟨us, e, h1, h2⟩ := q1; exact ⟨us, e, h1, h2.idfree hi'⟩
      | row k xs => exact q1
      | keys t ks => exact q1
  | eats b m k xs as res hb hm hin hc hs hrf hk =>
    have hold := h.heap b _ hb
    have hargs : F2 (fun (p : Bool × List AV) u => RV w imm (fun _ => ρ b) p.1 p.2 u) as us := by
      refine F2.comp (fun v hv p u h1 h3 => ?_) hc hr
      obtain ⟨cs, hvc, hcs⟩ := h1
      rw [hvc] at h3
      obtain ⟨ws, h4, h5⟩ := h3
      refine ⟨ws, F2.comp (fun c hcm d z h1 hz => ?_) hcs h4, h5⟩
      rcases h1 with ⟨rfl, hp1⟩ | ⟨rfl, rfl⟩
      · rw [RA.of_pers hp1] at hz ⊢
        exact hz
      · exact hz
    refine enter hs.1 (hs.2 w imm (ρ b) us h.immlt h.glob (fun he1 hhe => by cases hhe; exact ⟨hold, fun hu => ⟨(h.used b _ hb hu).1, (h.used b _ hb hu).2.1⟩⟩) hargs) ?_
    rintro e w' ⟨v, imm1, c1, rfl, r1, r2, r3, _, r5⟩
    have hext : Ext (fun x => (HE.row k xs).uses (ρ b) ∧ x = (ρ b).blk) w w' := r5.mono (fun x hx => by obtain ⟨he1, h1, h2, h3⟩ := hx; cases h1; exact ⟨h2, h3⟩)
    have hblk : ∀ c, imm c → w'.heap[c]? = w.heap[c]? := fun c hc => hext.block c (h.immlt c hc) (fun hx => (h.used b _ hb hx.1).2.1 (hx.2 ▸ hc))
    have hres : RS w' imm1 ρ res v := r1.cellwise (fun x hx u hra => hra.idfree (hrf x hx))
    have hok' : ∀ x, okC A hp x → okC (fun y => A y ∨ y = j) (upd hp b none) x := by
      intro x hx c hcx
      obtain ⟨h1, h2⟩ := hx c hcx
      refine ⟨.inl h1, fun k xs hk' => ?_⟩
      by_cases hcb : c = b
      · subst hcb; rw [upd_same] at hk'; cases hk'
      · rw [upd_ne _ _ hcb] at hk'; exact h2 k xs hk'
    refine ⟨v, rfl, res, [(b, none)], ρ, imm1, hk, ?_⟩
    refine h.go (b0 := b) (hp' := upd hp b none) (hpin := fun c hpc => ((h.pin _ c hpc).2.2.2 k xs hb).elim) (hpr := fun _ e k xs hk => by subst e; rw [upd_same] at hk; cases hk) (fun x hx => .inl hx) hext (fun x hx => ⟨_, hb, hx.1, hx.2⟩) r2 (fun x hx => ⟨(r3 x hx).1, ?_⟩) (by rw [put_size]; exact h.nt) (put_defers _ _ _)
      (fun x u hx hra => hra.mono r2 hblk) hok' (fun i => ?_) (fun c hcb => ⟨upd_ne _ _ hcb, rfl⟩) (fun he1 hhe => by rw [upd_same] at hhe; cases hhe)
    · rcases (r3 x hx).2 with h1 | h1 | ⟨_, he1, h1, h2, h3⟩
      · exact .inl h1
      · exact .inr (.inl h1)
      · cases h1; exact .inr (.inr ⟨upd_same _ _ _, _, hb, h2, h3⟩)
    · exact sl_cases h hd hres (fun x hx => .none_id (hrf x hx)) i
  | turn b m k xs k' xs' as res hb hm hin hc hs hl hk =>
    have hold := h.heap b _ hb
    have hargs : F2 (fun (p : Bool × List AV) u => RV w imm (fun _ => ρ b) p.1 p.2 u) as us := by
      refine F2.comp (fun v hv p u h1 h3 => ?_) hc hr
      obtain ⟨cs, hvc, hcs⟩ := h1
      rw [hvc] at h3
      obtain ⟨ws, h4, h5⟩ := h3
      refine ⟨ws, F2.comp (fun c hcm d z h1 hz => ?_) hcs h4, h5⟩
      rcases h1 with ⟨rfl, hp1⟩ | ⟨rfl, rfl⟩
      · rw [RA.of_pers hp1] at hz ⊢
        exact hz
      · exact hz
    refine enter hs.1 (hs.2 w imm (ρ b) us h.immlt h.glob (fun he1 hhe => by cases hhe; exact ⟨hold, fun hu => ⟨(h.used b _ hb hu).1, (h.used b _ hb hu).2.1⟩⟩) hargs) ?_
    rintro e w' ⟨v, imm1, c1, rfl, r1, r2, r3, r4, r5⟩
    obtain ⟨q1, q2, _, q4⟩ := r4 _ rfl
    obtain ⟨hblk1, hsame⟩ := q2 _ rfl
    have hext : Ext (fun x => (HE.row k xs).uses (ρ b) ∧ x = (ρ b).blk) w w' := r5.mono (fun x hx => by obtain ⟨he1, h1, h2, h3⟩ := hx; cases h1; exact ⟨h2, h3⟩)
    have hblk : ∀ c, imm c → w'.heap[c]? = w.heap[c]? := fun c hc => hext.block c (h.immlt c hc) (fun hx => (h.used b _ hb hx.1).2.1 (hx.2 ▸ hc))
    have hbj : b ≠ j := fun e => hj (e ▸ (h.wf.idh b _ hb).1)
    have hhp' : ∀ c he, (upd (upd hp b none) j (some (.row k' xs'))) c = some he → (c = j ∧ he = .row k' xs') ∨ (c ≠ j ∧ c ≠ b ∧ hp c = some he) := by
      intro c he hce
      by_cases hcj : c = j
      · subst hcj; rw [upd_same] at hce; cases hce; exact .inl ⟨rfl, rfl⟩
      · rw [upd_ne _ _ hcj] at hce
        by_cases hcb : c = b
        · subst hcb; rw [upd_same] at hce; cases hce
        · rw [upd_ne _ _ hcb] at hce; exact .inr ⟨hcj, hcb, hce⟩
    have hokold : ∀ x, okC A hp x → okC (fun y => A y ∨ y = j) (upd (upd hp b none) j (some (.row k' xs'))) x := by
      intro x hx c hcx
      obtain ⟨h1, h2⟩ := hx c hcx
      have hcj : c ≠ j := fun e => hj (e ▸ h1)
      refine ⟨.inl h1, fun k2 ys hk2 => ?_⟩
      rcases hhp' c _ hk2 with ⟨h3, _⟩ | ⟨_, _, h3⟩
      · exact absurd h3 hcj
      · exact h2 k2 ys h3
    have hRAold : ∀ x u, okC A hp x → RA w imm ρ x u → RA w' imm1 (upd ρ j c1) x u := fun x u hx hra => (RA.upd (fun e => hj (hx j e).1) hra).mono r2 hblk
    have hres : RS w' imm1 (upd ρ j c1) (res.ren j) v := by
      refine r1.via (g := ren j) (by cases res <;> rfl) (fun x hx u hra => ?_)
      rcases hl x hx with h1 | rfl
      · have : ren j x = x := by cases x <;> simp_all [AV.id?, ren]
        rw [this]
        exact hra.idfree h1
      · simp only [RA, ren, upd_same] at hra ⊢
        exact hra
    have hokr : ∀ x ∈ (res.ren j).cells, okC (fun y => A y ∨ y = j) (upd (upd hp b none) j (some (.row k' xs'))) x := by
      have hcells : ∀ x ∈ (res.ren j).cells, ∃ y ∈ res.cells, x = ren j y := by
        intro x hx
        cases res with
        | top => simp [SV.ren, SV.cells] at hx
        | c ag cs =>
          simp only [SV.ren, SV.cells, List.mem_map] at hx
          obtain ⟨y, hy, rfl⟩ := hx
          exact ⟨y, hy, rfl⟩
        | tup xs =>
          simp only [SV.ren, SV.cells, List.mem_flatMap, List.mem_map] at hx
          obtain ⟨p, ⟨q, hq, rfl⟩, hx⟩ := hx
          obtain ⟨y, hy, rfl⟩ := List.mem_map.1 hx
          exact ⟨y, by simp only [SV.cells, List.mem_flatMap]; exact ⟨q, hq, hy⟩, rfl⟩
      intro x hx
      obtain ⟨y, hy, rfl⟩ := hcells x hx
      rcases hl y hy with h1 | rfl
      · have : ren j y = y := by cases y <;> simp_all [AV.id?, ren]
        rw [this]; exact .none_id h1
      · intro c hcc
        simp only [ren, AV.id?, Option.some.injEq] at hcc
        subst hcc
        refine ⟨.inr rfl, fun k2 ys hk2 => ?_⟩
        rw [upd_same] at hk2
        cases hk2
        exact Nat.le_refl _
    refine ⟨v, rfl, res.ren j, [(b, none), (j, some (.row k' xs'))], upd ρ j c1, imm1, hk, ?_⟩
    have hused1 : (HE.row k' xs').uses c1 → c1.blk < w'.heap.size ∧ ¬ imm1 c1.blk ∧ (w.heap.size ≤ c1.blk ∨ usedBy hp ρ c1.blk) := by
      intro hu
      exact ⟨(q4 hu).1, (q4 hu).2, .inr ⟨b, _, hb, (hblk1 hu).1, (hblk1 hu).2⟩⟩
    refine h.step (Wt := fun x => (HE.row k xs).uses (ρ b) ∧ x = (ρ b).blk) (fun x hx => .inl hx) hext (fun x hx => ⟨b, _, hb, hx.1, hx.2⟩) r2 (fun x hx => ⟨(r3 x hx).1, ?_⟩) (by rw [put_size]; exact h.nt) (put_defers _ _ _) (fun i => ?_) (fun c he hce => ?_) (fun c c' he he' hce hce' hu hu' hne => ?_) (fun c d hcd => ?_) (fun c hcp k2 ys hk2 => ?_)
    · rcases (r3 x hx).2 with h1 | h1 | ⟨h1, _⟩
      · exact .inl h1
      · exact .inr (.inl h1)
      · cases h1
    · rcases sl_cases h hd hres hokr i with ⟨h1, h2⟩ | h1
      · rw [h1, h2]
        refine ⟨(h.slots i).cellwise (fun x hx u hra => hRAold x u (h.wf.ids i x hx) hra), fun x hx => hokold x (h.wf.ids i x hx)⟩
      · exact h1
    · rcases hhp' c he hce with ⟨rfl, rfl⟩ | ⟨h1, h2, h3⟩
      · rw [upd_same]
        exact ⟨.inr rfl, by simp [HE.cells], q1, hused1⟩
      · rw [upd_ne _ _ h1]
        have hold2 := h.heap c he h3
        have hwb : he.uses (ρ c) → w'.heap[(ρ c).blk]? = w.heap[(ρ c).blk]? := fun hu => hext.block _ (h.used c he h3 hu).1 (fun hx => h.inj c b he _ h3 hb hu hx.1 h2 hx.2)
        refine ⟨.inl (h.wf.idh c he h3).1, fun x hx => hokold x ((h.wf.idh c he h3).2 x hx), ?_, fun hu => ⟨Nat.lt_of_lt_of_le (h.used c he h3 hu).1 hext.size, fun hi => ?_, .inr ⟨c, he, h3, hu, rfl⟩⟩⟩
        · exact (hold2.mono r2 hblk hwb).upd (fun x hx e => hj ((h.wf.idh c he h3).2 x hx j e).1)
        · rcases (r3 _ hi).2 with h4 | h4 | ⟨h4, _⟩
          · exact (h.used c he h3 hu).2.1 h4
          · have := (h.used c he h3 hu).1; omega
          · cases h4
    · rcases hhp' c he hce with ⟨rfl, rfl⟩ | ⟨h1, h2, h3⟩
      · rcases hhp' c' he' hce' with ⟨rfl, _⟩ | ⟨h1', h2', h3'⟩
        · exact absurd rfl hne
        · rw [upd_same] at hu ⊢
          rw [upd_ne _ _ h1'] at hu' ⊢
          rw [(hblk1 hu).2]
          exact h.inj b c' _ he' hb h3' (hblk1 hu).1 hu' (Ne.symm h2')
      · rcases hhp' c' he' hce' with ⟨rfl, rfl⟩ | ⟨h1', h2', h3'⟩
        · rw [upd_same] at hu' ⊢
          rw [upd_ne _ _ h1] at hu ⊢
          rw [(hblk1 hu').2]
          exact h.inj c b he _ h3 hb hu (hblk1 hu').1 h2
        · rw [upd_ne _ _ h1] at hu ⊢
          rw [upd_ne _ _ h1'] at hu' ⊢
          exact h.inj c c' he he' h3 h3' hu hu' hne
    · have hcj : c ≠ j := fun e => hj (e ▸ (h.pin c d hcd).2.1)
      have hcb : c ≠ b := fun e => (h.pin c d hcd).2.2.2 k xs (e ▸ hb)
      refine ⟨by rw [upd_ne _ _ hcj]; exact (h.pin c d hcd).2.2.1, fun k2 ys hk2 => ?_⟩
      rcases hhp' c _ hk2 with ⟨h3, _⟩ | ⟨_, _, h3⟩
      · exact hcj h3
      · exact (h.pin c d hcd).2.2.2 k2 ys h3
    · have h0j : (0 : Nat) ≠ j := fun e => hj (e ▸ (h.pinr c hcp).1)
      rcases hhp' 0 _ hk2 with ⟨h3, _⟩ | ⟨_, _, h3⟩
      · exact absurd h3 h0j
      · rw [upd_ne _ _ h0j]; exact (h.pinr c hcp).2 k2 ys h3
end Go.Proofs.YtlbafapmhjfobaaGreatDoor
namespace Go.Proofs.YtlbafapmhjfobaaGreatDoor
variable {P : Program} {E : Env} {F : Fence} {n : Nat} {A : Nat → Prop} {sl : Nat → SV} {hp : Nat → Option HE} {ρ : Nat → Cn} {imm : Nat → Prop} {a : Act} {w : World} {j : Nat}
  {K : SV → List (Nat × Option HE) → Prop} {Q : Exit → Act → World → Prop} {o : Oper}

theorem evs_RS (h : Real E A sl hp ρ imm a w) : ∀ {xs : List Operand} {ys : List Opd}, F2 (fun x y => opdOf x = some y) xs ys → F2 (RS w imm ρ) (ys.map (ev E.gl sl)) (xs.map a.eval) ∧ ∀ v ∈ ys.map (ev E.gl sl), ∀ c ∈ v.cells, okC A hp c
  | [], [], _ => ⟨trivial, by simp⟩
  | x :: xs, y :: ys, hq => by
    obtain ⟨h1, h2⟩ := evs_RS h hq.2
    obtain ⟨h3, h4⟩ := ev_RS h hq.1
    refine ⟨⟨h3, h1⟩, fun v hv => ?_⟩
    rcases List.mem_cons.1 hv with rfl | hv
    · exact h4
    · exact h2 v hv
  | [], _ :: _, hq => hq.elim
  | _ :: _, [], hq => hq.elim

theorem snd_call {c : Call} {f : Nat} {ys : List Opd} (ho : o.op = .call c) (hcal : c.callee = .value (.func f)) (hys : opdsOf c.args.toList = some ys) (hF : WideF F) (h : Real E A sl hp ρ imm a w) (hj : ¬ A j) (hd : dstOk E o.dst)
    (hs : opSem P E.gl (ev E.gl sl) hp j (.call f ys) K) : o.wpIn F n P a w (Post E A sl hp o.dst j K) Q := by
  obtain ⟨h1, h2⟩ := evs_RS h (opdsOf_F2 hys)
  refine snd_callS (us := c.args.toList.map a.eval) (by simp [ho]) hF h hj hd (fun hen => ?_) h1 h2 hs
  simp only [execOp, ho, resolve, hcal, Sem.run_bind, Act.eval, Deferred.ofValue, Sem.run_pure, Result.andThen_ok, invoke]
  rw [hen]
  congr 2
  apply Array.ext'; simp [Act.eval]

theorem snd_dyn {c : Call} {x : Operand} {x' : Opd} {ys : List Opd} (ho : o.op = .call c) (hcal : c.callee = .value x) (hx : opdOf x = some x') (hys : opdsOf c.args.toList = some ys) (hF : WideF F) (h : Real E A sl hp ρ imm a w) (hj : ¬ A j) (hd : dstOk E o.dst)
    (hs : opSem P E.gl (ev E.gl sl) hp j (.dyn x' ys) K) : o.wpIn F n P a w (Post E A sl hp o.dst j K) Q := by
  obtain ⟨h1, h2⟩ := evs_RS h (opdsOf_F2 hys)
  simp only [opSem] at hs
  split at hs
  · rename_i f first caps he
    obtain ⟨g1, _⟩ := ev1 h hx he
    have g1 : PR w imm (.fn f first caps) (a.eval x) := g1
    cases hv : a.eval x with
    | func fn fi ca =>
      rw [hv] at g1
      cases g1 with
      | fn vs us k1 k2 k3 k4 k7 =>
        have hfirst : F2 (RS w imm ρ) (first.map fun p => SV.c p.1 p.2) (List.zipWith valOf first vs) := by
          apply F2.of_get (by simp [k1])
          intro i x u hx hu
          simp only [List.getElem?_map, Option.map_eq_some_iff] at hx
          obtain ⟨p, hp', rfl⟩ := hx
          have hlt : i < vs.length := by rw [k1]; exact (List.getElem?_eq_some_iff.1 hp').1
          have hvi : vs[i]? = some vs[i] := by simp [hlt]
          rw [List.getElem?_zipWith, hp', hvi] at hu
          simp only [Option.some.injEq] at hu
          subst hu
          have hrc : RC w imm ρ p.2 vs[i] := F2.of_get (k3 i p _ hp' hvi).1.symm (fun ii y u hy hu => .of_PR (k4 i p _ ii y u hp' hvi hy hu))
          unfold valOf
          exact RS.of_cells p.1 hrc (k3 i p _ hp' hvi).2
        have hcaps : F2 (RS w imm ρ) (caps.map fun c => SV.c false [c]) us := by
          apply F2.of_get (by simp [k2])
          intro i x u hx hu
          simp only [List.getElem?_map, Option.map_eq_some_iff] at hx
          obtain ⟨p, hp', rfl⟩ := hx
          exact .mk1 (.of_PR (k7 i p u hp' hu))
        refine snd_callS (us := List.zipWith valOf first vs ++ (c.args.toList.map a.eval ++ us)) (by simp [ho]) hF h hj hd (fun hen => ?_) (hfirst.append (h1.append hcaps)) (fun v hv => ?_) hs
        · simp only [execOp, ho, resolve, hcal, Sem.run_bind, hv, Deferred.ofValue, Sem.run_pure, Result.andThen_ok, invoke]
          rw [hen]
          congr 2
          apply Array.ext'; simp
        · rcases List.mem_append.1 hv with hv | hv
          · obtain ⟨p, hp', rfl⟩ := List.mem_map.1 hv
            obtain ⟨i, hi⟩ := List.mem_iff_getElem?.1 hp'
            have hlt : i < vs.length := by rw [k1]; exact (List.getElem?_eq_some_iff.1 hi).1
            have hvi : vs[i]? = some vs[i] := by simp [hlt]
            intro y hy
            obtain ⟨ii, hii⟩ := List.mem_iff_getElem?.1 hy
            have hl := (k3 i p _ hi hvi).1
            have hlt' : ii < vs[i].length := by rw [hl]; exact (List.getElem?_eq_some_iff.1 hii).1
            exact .pers (k4 i p _ ii y vs[i][ii] hi hvi hii (by simp [hlt'])).pers
          · rcases List.mem_append.1 hv with hv | hv
            · exact h2 v hv
            · obtain ⟨p, hp', rfl⟩ := List.mem_map.1 hv
              intro y hy
              simp only [SV.cells, List.mem_singleton] at hy
              subst hy
              obtain ⟨i, hi⟩ := List.mem_iff_getElem?.1 hp'
              have hlt : i < us.length := by rw [k2]; exact (List.getElem?_eq_some_iff.1 hi).1
              exact .pers (k7 i _ us[i] hi (by simp [hlt])).pers
    | _ => rw [hv] at g1; cases g1
  · exact hs.elim

theorem op_sound {ao : AOp} (hc : compOp P o.op = some ao) (hF : WideF F) (h : Real E A sl hp ρ imm a w) (hj : ¬ A j) (hd : dstOk E o.dst)
    (hs : opSem P E.gl (ev E.gl sl) hp j ao K) : o.wpIn F n P a w (Post E A sl hp o.dst j K) Q := by
  have hFf := hF.fn
  cases ho : o.op with
  | move x =>
    simp only [ho, compOp, Option.map_eq_some_iff] at hc
    obtain ⟨y, hy, rfl⟩ := hc
    exact snd_mv (.inl ho) hy hFf h hd hs
  | assign x =>
    simp only [ho, compOp, Option.map_eq_some_iff] at hc
    obtain ⟨y, hy, rfl⟩ := hc
    exact snd_mv (.inr ho) hy hFf h hd hs
  | pick c x y =>
    simp only [ho, compOp, Option.bind_eq_some_iff, Option.map_eq_some_iff] at hc
    obtain ⟨c', hc', x', hx, y', hy, rfl⟩ := hc
    exact snd_pick ho hc' hx hy hFf h hd hs
  | alloc t =>
    simp only [ho, compOp, Option.map_eq_some_iff] at hc
    obtain ⟨z, hz, rfl⟩ := hc
    exact snd_alloc ho hz hFf h hj hd hs
  | box t x =>
    simp only [ho, compOp, Option.map_eq_some_iff] at hc
    obtain ⟨y, hy, rfl⟩ := hc
    exact snd_box ho hy hFf h hj hd hs
  | build t ps => rw [ho] at hc; exact snd_build ho hc hFf h hd hs
  | buildSlice t len ps => rw [ho] at hc; exact snd_bslice ho hc hFf h hj hd hs
  | load t x =>
    simp only [ho, compOp, Option.bind_eq_some_iff, Option.map_eq_some_iff] at hc
    obtain ⟨ag, hag, m, hm, x', hx, rfl⟩ := hc
    exact snd_load ho hag hm hx hFf h hd hs
  | store t x v =>
    simp only [ho, compOp, Option.bind_eq_some_iff, Option.map_eq_some_iff] at hc
    obtain ⟨m, hm, x', hx, v', hv, rfl⟩ := hc
    exact snd_store ho hm hx hv hFf h hd hs
  | nilCheck x =>
    simp only [ho, compOp, Option.map_eq_some_iff] at hc
    obtain ⟨y, hy, rfl⟩ := hc
    exact snd_nilck ho hy hFf h hd hs
  | binOp op t x y ty =>
    simp only [ho, compOp] at hc
    split at hc
    · simp only [Option.bind_eq_some_iff, Option.map_eq_some_iff] at hc
      obtain ⟨x', hx, y', hy, rfl⟩ := hc
      exact snd_bin ho hx hy hFf h hd hs
    · rename_i hu
      simp only [Option.bind_eq_some_iff] at hc
      obtain ⟨x', hx, y', hy, hc⟩ := hc
      split at hc
      · cases hc; exact snd_beq (neg := false) ho hu hx hy hFf h hd hs
      · cases hc; exact snd_beq (neg := true) ho hu hx hy hFf h hd hs
      · cases hc
    · rename_i fs hu
      split at hc
      · cases hc
      · rename_i hg
        simp only [Option.bind_eq_some_iff] at hc
        obtain ⟨ds, hds, x', hx, y', hy, hc⟩ := hc
        split at hc
        · cases hc; exact snd_eqa (neg := false) ho (.inl ⟨fs, hu⟩) (by simpa using hg) hds hx hy hFf h hd hs
        · cases hc; exact snd_eqa (neg := true) ho (.inl ⟨fs, hu⟩) (by simpa using hg) hds hx hy hFf h hd hs
        · cases hc
    · rename_i m e hu
      split at hc
      · cases hc
      · rename_i hg
        simp only [Option.bind_eq_some_iff] at hc
        obtain ⟨ds, hds, x', hx, y', hy, hc⟩ := hc
        split at hc
        · cases hc; exact snd_eqa (neg := false) ho (.inr ⟨m, e, hu⟩) (by simpa using hg) hds hx hy hFf h hd hs
        · cases hc; exact snd_eqa (neg := true) ho (.inr ⟨m, e, hu⟩) (by simpa using hg) hds hx hy hFf h hd hs
        · cases hc
    · rename_i e hu
      split at hc
      · rename_i hnil
        have hy : a.eval y = .slice none 0 0 := by
          unfold isNilS at hnil
          split at hnil
          · rfl
          · cases hnil
        simp only [Option.bind_eq_some_iff] at hc
        obtain ⟨x', hx, hc⟩ := hc
        split at hc
        · cases hc; exact snd_eqn (neg := false) ho hu hy hx hFf h hd hs
        · cases hc; exact snd_eqn (neg := true) ho hu hy hx hFf h hd hs
        · cases hc
      · cases hc
    · cases hc
  | unOp op t x =>
    simp only [ho, compOp, Option.map_eq_some_iff] at hc
    obtain ⟨y, hy, rfl⟩ := hc
    exact snd_un ho hy hFf h hd hs
  | convert s d x =>
    simp only [ho, compOp] at hc
    split at hc
    · rename_i k k' h1 h2
      simp only [Option.map_eq_some_iff] at hc
      obtain ⟨y, hy, rfl⟩ := hc
      exact snd_conv ho h1 h2 hy hFf h hd hs
    · cases hc
  | makeFunc fn first caps =>
    cases fn with
    | func f =>
      simp only [ho, compOp, Option.bind_eq_some_iff, Option.map_eq_some_iff] at hc
      obtain ⟨fs, hfs, cs, hcs, rfl⟩ := hc
      exact snd_mkfn ho hfs hcs hFf h hd hs
    | _ => simp [ho, compOp] at hc
  | makeSlice t l c =>
    simp only [ho, compOp] at hc
    split at hc
    · rename_i e hu
      simp only [Option.bind_eq_some_iff] at hc
      obtain ⟨i, hi, z, hz, hc⟩ := hc
      split at hc
      · rename_i hsz
        simp only [Option.bind_eq_some_iff, Option.map_eq_some_iff] at hc
        obtain ⟨l', hl, c', hc', rfl⟩ := hc
        exact snd_mkslice ho hu hi hz hsz hl hc' hFf h hj hd hs
      · cases hc
    · cases hc
  | slice t x lo hi mx =>
    simp only [ho, compOp] at hc
    split at hc
    · cases hc
    · simp only [Option.bind_eq_some_iff] at hc
      obtain ⟨x', hx, hc⟩ := hc
      split at hc
      · rename_i e hu
        simp only [Option.bind_eq_some_iff] at hc
        obtain ⟨k, hk, hc⟩ := hc
        split at hc
        · cases hc; exact snd_slice ho hu hk hx (.inl ⟨rfl, rfl⟩) (.inl ⟨rfl, rfl⟩) hFf h hd hs
        · rename_i l
          simp only [Option.map_eq_some_iff] at hc
          obtain ⟨l', hl, rfl⟩ := hc
          exact snd_slice ho hu hk hx (.inr ⟨l, l', rfl, rfl, hl⟩) (.inl ⟨rfl, rfl⟩) hFf h hd hs
        · rename_i m
          simp only [Option.map_eq_some_iff] at hc
          obtain ⟨m', hm, rfl⟩ := hc
          exact snd_slice ho hu hk hx (.inl ⟨rfl, rfl⟩) (.inr ⟨m, m', rfl, rfl, hm⟩) hFf h hd hs
        · rename_i l m
          simp only [Option.bind_eq_some_iff, Option.map_eq_some_iff] at hc
          obtain ⟨l', hl, m', hm, rfl⟩ := hc
          exact snd_slice ho hu hk hx (.inr ⟨l, l', rfl, rfl, hl⟩) (.inr ⟨m, m', rfl, rfl, hm⟩) hFf h hd hs
      · rename_i m e hu
        split at hc
        · simp only [Option.map_eq_some_iff] at hc
          obtain ⟨k, hk, rfl⟩ := hc
          exact snd_slarr ho hu hk hx hFf h hd hs
        · cases hc
      · cases hc
  | fieldAddr s x f =>
    simp only [ho, compOp] at hc
    split at hc
    · rename_i fs hu
      simp only [Option.bind_eq_some_iff] at hc
      obtain ⟨fd, hfd, sz, hsz, hc⟩ := hc
      split at hc
      · cases hc
      · rename_i hnz
        simp only [Option.map_eq_some_iff] at hc
        obtain ⟨x', hx, rfl⟩ := hc
        exact snd_faddr ho hu hfd hsz hnz hx hFf h hd hs
    · cases hc
  | field t x f =>
    simp only [ho, compOp] at hc
    split at hc
    · rename_i fs hu
      simp only [Option.bind_eq_some_iff, Option.map_eq_some_iff] at hc
      obtain ⟨fd, hfd, sz, hsz, ag, hag, x', hx, rfl⟩ := hc
      exact snd_fld ho hu hfd hsz hag hx hFf h hd hs
    · cases hc
  | indexAddr t x i =>
    simp only [ho, compOp] at hc
    split at hc
    · rename_i m e hu
      simp only [Option.bind_eq_some_iff, Option.map_eq_some_iff] at hc
      obtain ⟨k, hk, x', hx, i', hi, rfl⟩ := hc
      exact snd_ixarr ho hu hk hx hi hFf h hd hs
    · rename_i e hu
      simp only [Option.bind_eq_some_iff, Option.map_eq_some_iff] at hc
      obtain ⟨k, hk, x', hx, i', hi, rfl⟩ := hc
      exact snd_ixsl ho hu hk hx hi hFf h hd hs
    · cases hc
  | index t x i =>
    simp only [ho, compOp] at hc
    split at hc
    · rename_i m e hu
      simp only [Option.bind_eq_some_iff] at hc
      obtain ⟨k, hk, ag, hag, hc⟩ := hc
      split at hc
      · rename_i hk1
        simp only [Option.bind_eq_some_iff, Option.map_eq_some_iff] at hc
        obtain ⟨x', hx, i', hi, rfl⟩ := hc
        exact snd_ix ho hu hk hag hk1 hx hi hFf h hd hs
      · cases hc
    · rename_i hu
      simp only [Option.bind_eq_some_iff, Option.map_eq_some_iff] at hc
      obtain ⟨x', hx, i', hi, rfl⟩ := hc
      exact snd_ixs ho hu hx hi hFf h hd hs
    · cases hc
  | extract x i =>
    simp only [ho, compOp, Option.map_eq_some_iff] at hc
    obtain ⟨y, hy, rfl⟩ := hc
    exact snd_ext ho hy hFf h hd hs
  | makeMap t r =>
    cases r with
    | none =>
      simp only [ho, compOp] at hc
      split at hc
      · simp only [Option.map_eq_some_iff] at hc
        obtain ⟨ds, hds, rfl⟩ := hc
        exact snd_mkmap ho hFf h hj hd hs
      · cases hc
    | some r => simp [ho, compOp] at hc
  | lookup t x i ok =>
    cases ok with
    | true => simp [ho, compOp] at hc
    | false =>
      simp only [ho, compOp] at hc
      split at hc
      · rename_i kt e hu
        split at hc
        · rename_i hcond
          simp only [Bool.and_eq_true] at hcond
          simp only [Option.bind_eq_some_iff, Option.map_eq_some_iff] at hc
          obtain ⟨ds, hds, x', hx, i', hi, rfl⟩ := hc
          exact snd_lkmap ho hu hcond.1 hcond.2 hds hx hi hFf h hd hs
        · cases hc
      · cases hc
  | mapUpdate t x i v =>
    simp only [ho, compOp] at hc
    split at hc
    · rename_i kt e hu
      split at hc
      · rename_i hcond
        simp only [Option.bind_eq_some_iff, Option.map_eq_some_iff] at hc
        obtain ⟨ds, hds, x', hx, i', hi, v', hv, rfl⟩ := hc
        exact snd_upmap ho hu hcond hds hx hi hv hFf h hd hs
      · cases hc
    · cases hc
  | call c =>
    simp only [ho, compOp] at hc
    split at hc
    · rename_i f hcal
      simp only [Option.map_eq_some_iff] at hc
      obtain ⟨ys, hys, rfl⟩ := hc
      exact snd_call ho hcal hys hF h hj hd hs
    · rename_i t hcal
      simp only [Option.map_eq_some_iff] at hc
      obtain ⟨ys, hys, rfl⟩ := hc
      exact snd_dyn ho hcal rfl hys hF h hj hd hs
    · rename_i hcal
      split at hc
      · rename_i x t hargs hat
        have ho' : o.op = .call { callee := .builtin .len, args := #[x], argTypes := c.argTypes } := by
          rw [ho]; congr 1; cases c; simp_all; apply Array.ext'; simpa using hargs
        split at hc
        · rename_i hu
          simp only [Option.map_eq_some_iff] at hc
          obtain ⟨y, hy, rfl⟩ := hc
          exact snd_lens ho' hat hu hy hFf h hd hs
        · rename_i e hu
          simp only [Option.map_eq_some_iff] at hc
          obtain ⟨y, hy, rfl⟩ := hc
          exact snd_len ho' hat hu hy hFf h hd hs
        · cases hc
      · cases hc
    · rename_i hcal
      split at hc
      · rename_i x y t u hargs hat hat'
        have ho' : o.op = .call { callee := .builtin .append, args := #[x, y], argTypes := c.argTypes } := by
          rw [ho]; congr 1; cases c; simp_all; apply Array.ext'; simpa using hargs
        split at hc
        · rename_i e e' hu hu'
          simp only [Option.bind_eq_some_iff] at hc
          obtain ⟨i, hi, z, hz, hc⟩ := hc
          split at hc
          · rename_i hpos
            simp only [Option.bind_eq_some_iff, Option.map_eq_some_iff] at hc
            obtain ⟨x', hx, y', hy, rfl⟩ := hc
            exact snd_app ho' hat hat' hu hu' hi hz hpos hx hy hFf h hj hd hs
          · cases hc
        · cases hc
      · cases hc
    · rename_i hcal
      split at hc
      · rename_i x t hargs hat
        have ho' : o.op = .call { callee := .builtin .clear, args := #[x], argTypes := c.argTypes } := by
          rw [ho]; congr 1; cases c; simp_all; apply Array.ext'; simpa using hargs
        split at hc
        · rename_i e hu
          simp only [Option.bind_eq_some_iff] at hc
          obtain ⟨k, hk, z, hz, hc⟩ := hc
          split at hc
          · rename_i hpos
            simp only [Option.map_eq_some_iff] at hc
            obtain ⟨y, hy, rfl⟩ := hc
            exact snd_clr ho' hat hu hk hz hpos hy hFf h hd hs
          · cases hc
        · cases hc
      · cases hc
    · rename_i hcal
      split at hc
      · cases hc
      · simp only [Option.map_eq_some_iff] at hc
        obtain ⟨ys, hys, rfl⟩ := hc
        exact snd_mn (mx := false) ho hcal hys hFf h hd hs
    · rename_i hcal
      split at hc
      · cases hc
      · simp only [Option.map_eq_some_iff] at hc
        obtain ⟨ys, hys, rfl⟩ := hc
        exact snd_mn (mx := true) ho hcal hys hFf h hd hs
    · cases hc
  | _ => simp [ho, compOp] at hc
end Go.Proofs.YtlbafapmhjfobaaGreatDoor
namespace Go.Proofs.YtlbafapmhjfobaaGreatDoor

/-! ### what an operation looks at -/
def optL {α : Type} : Option α → List α
  | some x => [x]
  | none => []
def AOp.opds : AOp → List Opd
  | .mv x | .box x | .load _ _ x | .faddr _ x | .fld _ _ _ x | .un _ x | .conv _ x | .eqn _ x | .slarr _ _ x | .ext x _ | .len x | .lens x | .nilck x | .clr _ _ x => [x]
  | .pick c a b => [c, a, b]
  | .bin _ x y | .beq _ x y | .eqa _ _ x y | .store _ x y | .ixarr _ _ x y | .ixsl _ x y | .ix _ _ _ x y | .ixs x y | .app _ _ x y | .mkslice _ _ x y | .lkmap _ x y => [x, y]
  | .alloc _ | .mkmap _ => []
  | .build _ ps => ps.map (·.2.2)
  | .bslice _ xs | .mn xs | .mx xs => xs
  | .slice _ x lo hi => x :: (optL lo ++ optL hi)
  | .upmap _ x i v => [x, i, v]
  | .mkfn _ f c => f ++ c
  | .call _ xs => xs
  | .dyn x xs => x :: xs
def idsOf (x : SV) : List Nat := x.cells.filterMap AV.id?
/-- the tracked blocks whose contents it looks at -/
def AOp.fp (evv : Opd → SV) : AOp → List Nat
  | .load _ _ x | .faddr _ x | .ixsl _ x _ | .len x | .store _ x _ | .lkmap _ x _ | .upmap _ x _ _ | .slice _ x _ _ | .clr _ _ x => idsOf (evv x)
  | .app _ _ x y => idsOf (evv x) ++ idsOf (evv y)
  | .call _ xs => xs.flatMap fun x => idsOf (evv x)
  | .dyn x xs => (match evv x with
    | .c false [.fn _ first caps] => first.flatMap (fun p => idsOf (.c p.1 p.2)) ++ caps.flatMap (fun c => idsOf (.c false [c]))
    | _ => []) ++ xs.flatMap fun x => idsOf (evv x)
  | _ => []

section
variable {P : Program} {gl : Nat → Option (List AV)} {evv evv' : Opd → SV} {hv hv' : Nat → Option HE} {j : Nat} {o : AOp} {K : SV → List (Nat × Option HE) → Prop}

theorem CallS.pt {f : Nat} {vs : List SV} (h : CallS P gl hv j f vs K) : ∃ out u, K out u ∧ ∀ K' : SV → List (Nat × Option HE) → Prop, K' out u → CallS P gl hv j f vs K' := by
  cases h with
  | pure as res hc hs hf hi hk => exact ⟨_, _, hk, fun K' h => .pure as res hc hs hf hi h⟩
  | fresh as res he hc hs hn hi hl hk => exact ⟨_, _, hk, fun K' h => .fresh as res he hc hs hn hi hl h⟩
  | inout b he he' as res hb hi hi' hkind hin hc hs hrf hk => exact ⟨_, _, hk, fun K' h => .inout b he he' as res hb hi hi' hkind hin hc hs hrf h⟩
  | eats b m k xs as res hb hm hin hc hs hrf hk => exact ⟨_, _, hk, fun K' h => .eats b m k xs as res hb hm hin hc hs hrf h⟩
  | turn b m k xs k' xs' as res hb hm hin hc hs hl hk => exact ⟨_, _, hk, fun K' h => .turn b m k xs k' xs' as res hb hm hin hc hs hl h⟩

theorem binS_pt {op : BinOp} {k k' : IntKind} {a b : Int} {K : AV → Prop} (h : binS op k a k' b K) : ∃ r, K r ∧ ∀ K' : AV → Prop, K' r → binS op k a k' b K' := by
  cases op <;> simp only [binS] at h ⊢ <;> first
    | exact h.elim
    | exact ⟨_, h.2, fun _ h' => ⟨h.1, h'⟩⟩
    | exact ⟨_, h.2.2, fun _ h' => ⟨h.1, h.2.1, h'⟩⟩

theorem opSem_pt (h : opSem P gl evv hv j o K) : ∃ out u, K out u ∧ ∀ K' : SV → List (Nat × Option HE) → Prop, K' out u → opSem P gl evv hv j o K' := by
  cases o with
  | call f args => exact CallS.pt h
  | dyn x args =>
    simp only [opSem] at h ⊢
    split at h
    · rename_i f first caps he
      exact CallS.pt h
    · exact h.elim
  | pick c a b =>
    simp only [opSem] at h ⊢
    split at h
    · rename_i t he
      cases t
      · exact ⟨_, _, h.2 rfl, fun K' hk => ⟨(fun e => by cases e), fun _ => hk⟩⟩
      · exact ⟨_, _, h.1 rfl, fun K' hk => ⟨fun _ => hk, (fun e => by cases e)⟩⟩
    · exact h.elim
  | bin op x y =>
    simp only [opSem] at h ⊢
    split at h
    · rename_i k a k' b he he'
      obtain ⟨r, h1, h2⟩ := binS_pt h
      exact ⟨_, _, h1, fun K' hk => h2 _ hk⟩
    · exact h.elim
  | app k b x y =>
    simp only [opSem] at h ⊢
    split at h
    · exact h.elim
    · rename_i ys c hsrc
      obtain ⟨hc, h⟩ := h
      split at h
      · exact ⟨_, _, h.2, fun K' hk => ⟨hc, h.1, hk⟩⟩
      · split at h
        · exact ⟨_, _, h.2.2.2.2, fun K' hk => ⟨hc, h.1, h.2.1, h.2.2.1, h.2.2.2.1, hk⟩⟩
        · exact h.elim
      · exact h.elim
  | mn xs =>
    cases xs with
    | nil => exact h.elim
    | cons x r =>
      simp only [opSem] at h ⊢
      (repeat' split at h) <;> first | exact h.elim | exact ⟨_, _, h, fun _ h' => h'⟩
  | mx xs =>
    cases xs with
    | nil => exact h.elim
    | cons x r =>
      simp only [opSem] at h ⊢
      (repeat' split at h) <;> first | exact h.elim | exact ⟨_, _, h, fun _ h' => h'⟩
  | beq neg x y =>
    simp only [opSem] at h ⊢
    split at h
    · exact ⟨_, _, h, fun _ h' => h'⟩
    · exact h.elim
  | eqa neg ds x y =>
    simp only [opSem] at h ⊢
    split at h
    · split at h
      · exact ⟨_, _, h.2.2, fun _ h' => ⟨h.1, h.2.1, h'⟩⟩
      · exact h.elim
    · exact h.elim
  | slice k x lo hi =>
    simp only [opSem] at h ⊢
    split at h
    · split at h
      · exact ⟨_, _, h.2.2, fun K' hk => ⟨h.1, h.2.1, hk⟩⟩
      · exact h.elim
    · split at h
      · split at h
        · exact ⟨_, _, h.2.2, fun K' hk => ⟨h.1, h.2.1, hk⟩⟩
        · exact h.elim
      · exact h.elim
    · exact h.elim
  | _ =>
    simp only [opSem] at h ⊢
    (repeat' split at h) <;> first
      | exact h.elim
      | exact ⟨_, _, h, fun _ h' => h'⟩
      | exact ⟨_, _, h.2, fun _ h' => ⟨h.1, h'⟩⟩
      | exact ⟨_, _, h.2.2, fun _ h' => ⟨h.1, h.2.1, h'⟩⟩
      | exact ⟨_, _, h.2.2.2, fun _ h' => ⟨h.1, h.2.1, h.2.2.1, h'⟩⟩
      | exact ⟨_, _, h.2.2.2.2.2, fun _ h' => ⟨h.1, h.2.1, h.2.2.1, h.2.2.2.1, h.2.2.2.2.1, h'⟩⟩
      | exact ⟨_, _, h.2.2.2.2, fun _ h' => ⟨h.1, h.2.1, h.2.2.1, h.2.2.2.1, h'⟩⟩

theorem mem_idsOf {x : SV} {c : AV} {b : Nat} (hc : c ∈ x.cells) (hb : c.id? = some b) : b ∈ idsOf x := List.mem_filterMap.2 ⟨c, hc, hb⟩

theorem CallS.loc {f : Nat} {vs : List SV} (hh : ∀ v ∈ vs, ∀ b ∈ idsOf v, hv' b = hv b) (h : CallS P gl hv j f vs K) : CallS P gl hv' j f vs K := by
  have hcoe : ∀ as, F2 (coeV hv) vs as → F2 (coeV hv') vs as := by
    intro as hc
    refine F2.mono (fun v hvm p h1 => ?_) hc
    obtain ⟨cs, h2, h3⟩ := h1
    refine ⟨cs, h2, F2.mono (fun c hcm d h4 => ?_) h3⟩
    rcases h4 with h4 | h4 | ⟨b, n, k, xs, e1, e2, e3, e4⟩
    · exact .inl h4
    · exact .inr (.inl h4)
    · refine .inr (.inr ⟨b, n, k, xs, e1, e2, ?_, e4⟩)
      rw [hh v hvm b (mem_idsOf (c := c) (by rw [h2]; exact hcm) (by rw [e1]; rfl))]
      exact e3
  cases h with
  | pure as res hc hs hf hi hk => exact .pure as res (hcoe as hc) hs hf hi hk
  | fresh as res he hc hs hn hi hl hk => exact .fresh as res he (hcoe as hc) hs hn hi hl hk
  | inout b he he' as res hb hi hi' hkind hin hc hs hrf hk =>
    obtain ⟨v, hvm, x, hx, hid⟩ := hin
    exact .inout b he he' as res (by rw [hh v hvm b (mem_idsOf hx hid)]; exact hb) hi hi' hkind ⟨v, hvm, x, hx, hid⟩ hc hs hrf hk
  | eats b m k xs as res hb hm hin hc hs hrf hk =>
    obtain ⟨v, hvm, x, hx, hid⟩ := hin
    exact .eats b m k xs as res (by rw [hh v hvm b (mem_idsOf hx hid)]; exact hb) hm ⟨v, hvm, x, hx, hid⟩ hc hs hrf hk
  | turn b m k xs k' xs' as res hb hm hin hc hs hl hk =>
    obtain ⟨v, hvm, x, hx, hid⟩ := hin
    exact .turn b m k xs k' xs' as res (by rw [hh v hvm b (mem_idsOf hx hid)]; exact hb) hm ⟨v, hvm, x, hx, hid⟩ hc hs hl hk

theorem fillA_loc : ∀ (ps : List (Nat × Nat × Opd)) (cs : List AV), (∀ x ∈ ps.map (·.2.2), evv' x = evv x) → fillA evv' cs ps = fillA evv cs ps
  | [], _, _ => rfl
  | (off, sz, x) :: ps, cs, h => by
    have h1 := h x (by simp)
    have ih := fun cs => fillA_loc ps cs (fun y hy => h y (by simp at hy ⊢; exact .inr hy))
    simp only [fillA, h1, ih]
theorem rowOf_loc {k : Nat} : ∀ (xs : List Opd), (∀ x ∈ xs, evv' x = evv x) → rowOf evv' k xs = rowOf evv k xs
  | [], _ => rfl
  | x :: xs, h => by simp only [rowOf, h x (by simp), rowOf_loc xs (fun y hy => h y (by simp [hy]))]
theorem firstCells_loc : ∀ (xs : List Opd), (∀ x ∈ xs, evv' x = evv x) → firstCells evv' xs = firstCells evv xs
  | [], _ => rfl
  | x :: xs, h => by simp only [firstCells, h x (by simp), firstCells_loc xs (fun y hy => h y (by simp [hy]))]
theorem fnCells_loc : ∀ (xs : List Opd), (∀ x ∈ xs, evv' x = evv x) → fnCells evv' xs = fnCells evv xs
  | [], _ => rfl
  | x :: xs, h => by simp only [fnCells, h x (by simp), fnCells_loc xs (fun y hy => h y (by simp [hy]))]
theorem map_loc : ∀ (xs : List Opd), (∀ x ∈ xs, evv' x = evv x) → xs.map evv' = xs.map evv
  | [], _ => rfl
  | x :: xs, h => by simp only [List.map_cons, h x (by simp), map_loc xs (fun y hy => h y (by simp [hy]))]

theorem opSem_loc (he : ∀ x ∈ o.opds, evv' x = evv x) (hh : ∀ b ∈ o.fp evv, hv' b = hv b) (h : opSem P gl evv hv j o K) : opSem P gl evv' hv' j o K := by
  have id1 : ∀ {x : SV} {c : AV} {b : Nat}, x = .c false [c] → c.id? = some b → b ∈ idsOf x := by
    rintro x c b rfl hb
    exact mem_idsOf (c := c) (by simp [SV.cells]) hb
  cases o with
  | call f args =>
    simp only [opSem] at h ⊢
    rw [map_loc args he]
    refine CallS.loc (fun v hvm b hb => ?_) h
    obtain ⟨x, hx, rfl⟩ := List.mem_map.1 hvm
    exact hh b (List.mem_flatMap.2 ⟨x, hx, hb⟩)
  | dyn x args =>
    simp only [opSem] at h ⊢
    rw [map_loc args (fun y hy => he y (by simp [AOp.opds, hy])), he x (by simp [AOp.opds])]
    split at h
    · rename_i f first caps hx
      refine CallS.loc (fun v hvm b hb => ?_) h
      have hh : ∀ b ∈ (first.flatMap (fun p => idsOf (.c p.1 p.2)) ++ caps.flatMap (fun c => idsOf (.c false [c]))) ++ args.flatMap (fun x => idsOf (evv x)), hv' b = hv b := by
        simpa only [AOp.fp, hx] using hh
      rcases List.mem_append.1 hvm with hvm | hvm
      · obtain ⟨p, hp, rfl⟩ := List.mem_map.1 hvm
        exact hh b (List.mem_append_left _ (List.mem_append_left _ (List.mem_flatMap.2 ⟨p, hp, hb⟩)))
      · rcases List.mem_append.1 hvm with hvm | hvm
        · obtain ⟨x, hx, rfl⟩ := List.mem_map.1 hvm
          exact hh b (List.mem_append_right _ (List.mem_flatMap.2 ⟨x, hx, hb⟩))
        · obtain ⟨c, hc, rfl⟩ := List.mem_map.1 hvm
          exact hh b (List.mem_append_left _ (List.mem_append_right _ (List.mem_flatMap.2 ⟨c, hc, hb⟩)))
    · exact h.elim
  | build z ps => simp only [opSem] at h ⊢; rw [fillA_loc ps z he]; exact h
  | bslice k xs => simp only [opSem] at h ⊢; rw [rowOf_loc xs he]; exact h
  | mkfn f fs cs =>
    simp only [opSem] at h ⊢
    rw [firstCells_loc fs (fun y hy => he y (by simp [AOp.opds, hy])), fnCells_loc cs (fun y hy => he y (by simp [AOp.opds, hy]))]
    exact h
  | mn xs =>
    cases xs with
    | nil => exact h.elim
    | cons x r => simp only [opSem] at h ⊢; rw [he x (by simp [AOp.opds]), map_loc r (fun y hy => he y (by simp [AOp.opds, hy]))]; exact h
  | mx xs =>
    cases xs with
    | nil => exact h.elim
    | cons x r => simp only [opSem] at h ⊢; rw [he x (by simp [AOp.opds]), map_loc r (fun y hy => he y (by simp [AOp.opds, hy]))]; exact h
  | slice k x lo hi =>
    simp only [opSem] at h ⊢
    have h1 := he x (by simp [AOp.opds])
    rw [h1]
    cases lo with
    | none => cases hi with
      | none =>
        split at h
        · exact h
        · rename_i b n hx
          rw [hh b (by simp only [AOp.fp]; exact id1 hx rfl)]; exact h
        · exact h.elim
      | some m =>
        have := he m (by simp [AOp.opds, optL])
        simp only [this]
        split at h
        · exact h
        · rename_i b n hx
          rw [hh b (by simp only [AOp.fp]; exact id1 hx rfl)]; exact h
        · exact h.elim
    | some l =>
      have h2 := he l (by simp [AOp.opds, optL])
      cases hi with
      | none =>
        simp only [h2]
        split at h
        · exact h
        · rename_i b n hx
          rw [hh b (by simp only [AOp.fp]; exact id1 hx rfl)]; exact h
        · exact h.elim
      | some m =>
        have := he m (by simp [AOp.opds, optL])
        simp only [this, h2]
        split at h
        · exact h
        · rename_i b n hx
          rw [hh b (by simp only [AOp.fp]; exact id1 hx rfl)]; exact h
        · exact h.elim
  | load ag n x =>
    have h1 := he x (by simp [AOp.opds])
    simp only [opSem, h1] at h ⊢
    split at h
    · rename_i b off hx
      rw [hh b (by simp only [AOp.fp]; exact id1 hx rfl)]; exact h
    · rename_i b m i off hx
      rw [hh b (by simp only [AOp.fp]; exact id1 hx rfl)]; exact h
    · exact h
    · exact h.elim
  | store n x v =>
    have h1 := he x (by simp [AOp.opds])
    have h2 := he v (by simp [AOp.opds])
    simp only [opSem, h1, h2] at h ⊢
    split at h
    · rename_i b off ag ys hx hy
      rw [hh b (by simp only [AOp.fp]; exact id1 hx rfl)]; exact h
    · rename_i b m i off ag ys hx hy
      rw [hh b (by simp only [AOp.fp]; exact id1 hx rfl)]; exact h
    · exact h.elim
  | faddr off x =>
    have h1 := he x (by simp [AOp.opds])
    simp only [opSem, h1] at h ⊢
    split at h
    · exact h
    · rename_i b m i o hx
      rw [hh b (by simp only [AOp.fp]; exact id1 hx rfl)]; exact h
    · exact h
    · exact h.elim
  | ixsl k x i =>
    have h1 := he x (by simp [AOp.opds])
    have h2 := he i (by simp [AOp.opds])
    simp only [opSem, h1, h2] at h ⊢
    split at h
    · rename_i b n kk m hx hi
      rw [hh b (by simp only [AOp.fp]; exact id1 hx rfl)]; exact h
    · exact h
    · rename_i b n lo hi' kk m hx hi
      rw [hh b (by simp only [AOp.fp]; exact id1 hx rfl)]; exact h
    · exact h.elim
  | clr k z x =>
    have h1 := he x (by simp [AOp.opds])
    simp only [opSem, h1] at h ⊢
    split at h
    · rename_i b n lo hi hx
      rw [hh b (by simp only [AOp.fp]; exact id1 hx rfl)]; exact h
    · exact h.elim
  | len x =>
    have h1 := he x (by simp [AOp.opds])
    simp only [opSem, h1] at h ⊢
    split at h
    · exact h
    · exact h
    · rename_i b n hx
      rw [hh b (by simp only [AOp.fp]; exact id1 hx rfl)]; exact h
    · rename_i b n lo hi hx
      rw [hh b (by simp only [AOp.fp]; exact id1 hx rfl)]; exact h
    · exact h.elim
  | lkmap ds x i =>
    have h1 := he x (by simp [AOp.opds])
    have h2 := he i (by simp [AOp.opds])
    simp only [opSem, h1, h2] at h ⊢
    split at h
    · rename_i b cs hx hi
      rw [hh b (by simp only [AOp.fp]; exact id1 hx rfl)]; exact h
    · exact h.elim
  | upmap ds x i v =>
    have h1 := he x (by simp [AOp.opds])
    have h2 := he i (by simp [AOp.opds])
    have h3 := he v (by simp [AOp.opds])
    simp only [opSem, h1, h2, h3] at h ⊢
    split at h
    · rename_i b cs hx hi hv
      rw [hh b (by simp only [AOp.fp]; exact id1 hx rfl)]; exact h
    · exact h.elim
  | app k by_ x y =>
    have h1 := he x (by simp [AOp.opds])
    have h2 := he y (by simp [AOp.opds])
    have hsrc : ∀ b n, evv y = .c false [.own b n] → hv' b = hv b := fun b n hy => hh b (by simp only [AOp.fp]; exact List.mem_append_right _ (id1 hy rfl))
    have hdst : ∀ b n, evv x = .c false [.own b n] → hv' b = hv b := fun b n hy => hh b (by simp only [AOp.fp]; exact List.mem_append_left _ (id1 hy rfl))
    simp only [opSem, h1, h2] at h ⊢
    have e1 : srcS hv' k (evv y) = srcS hv k (evv y) := by
      unfold srcS
      split
      · rfl
      · rfl
      · rename_i b n hy; rw [hsrc b n hy]
      · rfl
    rw [e1]
    split at h
    · exact h.elim
    · refine ⟨h.1, ?_⟩
      have h := h.2
      split at h
      · exact h
      · rename_i b n hx; rw [hdst b n hx]; exact h
      · exact h.elim
  | pick c a b =>
    have h1 := he c (by simp [AOp.opds]); have h2 := he a (by simp [AOp.opds]); have h3 := he b (by simp [AOp.opds])
    simp only [opSem, h1, h2, h3] at h ⊢; exact h
  | _ =>
    simp only [AOp.opds, List.mem_cons, List.not_mem_nil, or_false, forall_eq_or_imp, forall_eq, false_implies, implies_true] at he
    simp only [opSem, he] at h ⊢
    exact h
end
end Go.Proofs.YtlbafapmhjfobaaGreatDoor
