/-
  The framework (4 of 4): ranges over functions, freezing, contracts, rules for calls and loops.
-/
import Derived.Test.YtlbafapmhjfobaaGreatDoorAbs3
set_option linter.unusedVariables false
set_option linter.unusedSimpArgs false
namespace Go.Proofs.YtlbafapmhjfobaaGreatDoor
open Classical in
/-- which blocks keep their numbers -/
noncomputable def pinsOf (st : St) (ρ : Nat → Cn) : Nat → Option Cn := fun b => if b < 100 ∧ b < st.nx ∧ ∀ k xs, st.hp b ≠ some (.row k xs) then some (ρ b) else none
theorem pinsOf_spec {st : St} {ρ : Nat → Cn} {b : Nat} {c : Cn} (h : pinsOf st ρ b = some c) : b < 100 ∧ b < st.nx ∧ ρ b = c ∧ ∀ k xs, st.hp b ≠ some (.row k xs) := by
  unfold pinsOf at h
  split at h
  · rename_i hc; exact ⟨hc.1, hc.2.1, by simpa using h, hc.2.2⟩
  · cases h
theorem pinsOf_at {st : St} {ρ : Nat → Cn} {b : Nat} (h1 : b < 100) (h2 : b < st.nx) (h3 : ∀ k xs, st.hp b ≠ some (.row k xs)) : pinsOf st ρ b = some (ρ b) := by
  unfold pinsOf; rw [if_pos ⟨h1, h2, h3⟩]

theorem pers_noid0 {x : AV} (h : x.pers = true) : x.id? = none := by cases x <;> simp_all [AV.pers, AV.id?]
variable {P : Program} {F : Fence} {n : Nat}

/-- a state of ours, between two rounds -/
def JJ (E : Env) (a₀ : Act) (w1 : World) (l : Nat) (r : Loop) (st : St) : (Nat → Prop) → (Nat → Prop) → World → Prop := fun imm Z W =>
  ∃ ρ, Real E (fun b => b < st.nx) st.sl st.hp ρ imm a₀ W ∧ W.heap[l]? = some (.loop r) ∧ ¬ imm l ∧ ¬ usedBy st.hp ρ l ∧ ∀ x, Z x → w1.heap.size ≤ x ∧ ¬ usedBy st.hp ρ x

theorem JJ_stable {E : Env} {a₀ : Act} {w1 : World} {l : Nat} {r : Loop} {st : St} (hJ : ∀ i z w, E.J i z w) (hl1 : w1.heap.size = l + 1) (hw0 : E.w0.heap.size ≤ w1.heap.size)
    (hds : ∀ ds : List Nat, a₀.defers = ds.map mark ++ E.defs → ∀ D ∈ ds, D < w1.heap.size) : JStable (JJ E a₀ w1 l r st) := by
  rintro imm Z W imm' Z' W' Wt ⟨ρ, hr, hl, hli, hlu, hz⟩ hZi hw hWt hi hi' hZ'
  have hlW : l < W.heap.size := (Array.getElem?_eq_some_iff.1 hl).1
  have hsz0 : E.w0.heap.size ≤ W.heap.size := hr.ext.size
  have hlZ : ¬ Z l := fun h => by have := (hz l h).1; omega
  refine ⟨ρ, hr.later hw (fun x hx => ?_) hi (fun x hx => ?_) rfl ?_ (hJ _ _ _), (hw.block l hlW (fun h => hlZ (hWt l h))).trans hl, fun h => ?_, hlu, fun x hx => ?_⟩
  · have h1 := hWt x hx
    exact ⟨(hZi x h1).2, (hz x h1).2, .inl (by have := (hz x h1).1; omega)⟩
  · refine ⟨(hi' x hx).1, ?_⟩
    rcases (hi' x hx).2 with h1 | h1 | h1
    · exact ⟨fun hu => (hr.usedlt hu).2.1 h1, hr.immF x h1⟩
    · exact ⟨(hz x h1).2, .inr (.inl (by have := (hz x h1).1; omega))⟩
    · exact ⟨fun hu => by have := (hr.usedlt hu).1; omega, .inr (.inl (by omega))⟩
  · obtain ⟨ds, e1, e2, e3⟩ := hr.defs
    refine ⟨ds, e1, e2, fun D hD => ?_⟩
    obtain ⟨g1, g2, g3, g4⟩ := e3 D hD
    have hlt := hds ds e1 D hD
    have hDW : D < W.heap.size := (Array.getElem?_eq_some_iff.1 g1).1
    have hDZ : ¬ Z D := fun h => by have := (hz D h).1; omega
    refine ⟨(hw.block D hDW (fun h => hDZ (hWt D h))).trans g1, g2, fun h => ?_, g4⟩
    rcases (hi' D h).2 with h1 | h1 | h1
    · exact g3 h1
    · exact hDZ h1
    · omega
  · rcases (hi' l h).2 with h1 | h1 | h1
    · exact hli h1
    · exact hlZ h1
    · omega
  · rcases hZ' x hx with h1 | h1
    · exact hz x h1
    · exact ⟨by omega, fun hu => by have := (hr.usedlt hu).1; omega⟩

theorem rng_sound {nt : Nat} {E : Env} {K : Ex → St → Prop} {st : St} {ρ : Nat → Cn} {imm : Nat → Prop} {a : Act} {w : World} {g : Operand} {p : Nat} {asg body : Code} {wa wb : St → (Ex → St → Prop) → Prop} {x : Opd} {nr : Bool}
    (hF : WideF F) (hro : F.round = none) (hJ : ∀ i z w, E.J i z w) (hq : E.q = false) (hpr : E.pinr = none) (hp : p < nt) (hnt : nt = E.nt) (hx : opdOf g = some x) (h : Real E (fun b => b < st.nx) st.sl st.hp ρ imm a w)
    (ihasg : ∀ (E1 : Env) (l m : Nat) (st : St) (K : Ex → St → Prop) (ρ : Nat → Cn) (imm : Nat → Prop) (a : Act) (w : World), nt = E1.nt → E1.gl = E.gl → Real E1 (fun b => b < st.nx) st.sl st.hp ρ imm a w → wa st K → asg.wpIn (Fence.wide.inRound l) m P (PostX E1 K) a w)
    (ihbody : ∀ (E1 : Env) (l m : Nat) (st : St) (K : Ex → St → Prop) (ρ : Nat → Cn) (imm : Nat → Prop) (a : Act) (w : World), nt = E1.nt → E1.gl = E.gl → Real E1 (fun b => b < st.nx) st.sl st.hp ρ imm a w → wb st K → body.wpIn (Fence.wide.inRound l) m P (PostX E1 K) a w)
    (hs : RngW P E.gl x p nr wa wb st K) : (Code.rangeFunc g #[p] asg body).wpIn F n P (PostX E K) a w := by
  obtain ⟨_, f, caps, items, R, S, hev, ⟨hent, hitp, hspec⟩, ⟨hR0, hwk⟩, hround, hend⟩ := hs
  obtain ⟨ρ0, imm0, h0⟩ := hwk E ρ imm a w rfl h
  refine wpIn_rangeFunc ?_
  intro fn hfn
  rw [hro]
  -- the iterator's value
  have hval : PR w imm0 (.fn f [] caps) (a.eval g) := (ev1 h0 hx hev).1
  obtain ⟨us, hus, hae⟩ : ∃ us : List Value, F2 (PR w imm0) caps us ∧ a.eval g = .func (.func f) #[] us.toArray := by
    cases hval' : a.eval g with
    | func k first caps' =>
      rw [hval'] at hval
      cases hval with
      | fn vs us h1 h2 h3 h4 h7 =>
        have : vs = [] := List.length_eq_zero_iff.1 (by simpa using h1)
        subst this
        exact ⟨us, F2.of_get h2.symm h7, rfl⟩
    | _ => rw [hval'] at hval; cases hval
  obtain ⟨rec, hrec⟩ : ∃ rec : LoopState → Option Code → Loop, rec = fun st pe => { state := st, pending := pe, fn, tmps := a.tmps, params := #[p], assign := asg, body := body, defers := w.heap.size } := ⟨_, rfl⟩
  obtain ⟨l, hl⟩ : ∃ l, l = w.heap.size + 1 := ⟨_, rfl⟩
  obtain ⟨W1, hW1⟩ : ∃ W1, (w.alloc (.deferred (some []))).alloc (.loop (rec .ready none)) = W1 := ⟨_, rfl⟩
  have hL1 : W1.heap[l]? = some (.loop (rec .ready none)) := by
    rw [← hW1, hl]; have := World.alloc_heap_new (w.alloc (.deferred (some []))) (.loop (rec .ready none)); rwa [World.size_alloc] at this
  have hext1 : Ext (fun _ => False) w W1 := by rw [← hW1]; exact ext_alloc.trans ext_alloc (fun _ h => h.elim)
  have hK1 : W1.heap[w.heap.size]? = some (.deferred (some [])) := by
    rw [← hW1]; exact (ext_alloc.block _ (by simp) (fun h => h)).trans (World.alloc_heap_new w _)
  have hsz1 : W1.heap.size = l + 1 := by rw [← hW1, hl]; simp
  obtain ⟨a₀, ha₀⟩ : ∃ a₀ : Act, a₀ = { a with defers := mark w.heap.size :: a.defers } := ⟨_, rfl⟩
  obtain ⟨ds0, d1, d2, d3⟩ := h0.defs
  have hdefs0 : a₀.defers = (w.heap.size :: ds0).map mark ++ E.defs := by rw [ha₀, List.map_cons, List.cons_append, ← d1]
  have hdslt : ∀ D ∈ ds0, D < w.heap.size := fun D hD => (Array.getElem?_eq_some_iff.1 (d3 D hD).1).1
  have hds : ∀ ds : List Nat, a₀.defers = ds.map mark ++ E.defs → ∀ D ∈ ds, D < W1.heap.size := by
    intro ds he D hD
    rw [hdefs0] at he
    have := mark_inj (List.append_cancel_right he)
    rw [← this] at hD
    rcases List.mem_cons.1 hD with rfl | hD
    · omega
    · have := hdslt D hD; omega
  have hw0 : E.w0.heap.size ≤ w.heap.size := h0.ext.size
  have hR1 : Real E (fun b => b < (S 0).nx) (S 0).sl (S 0).hp ρ0 imm0 a₀ W1 := by
    refine h0.later hext1 (fun _ h => h.elim) (fun _ h => h) (fun x hx => ⟨by have := h0.immlt x hx; omega, fun hu => (h0.usedlt hu).2.1 hx, h0.immF x hx⟩) (by rw [ha₀]) ⟨_, hdefs0, ?_, fun D hD => ?_⟩ (hJ _ _ _)
    · refine ⟨List.nodup_cons.2 ⟨fun hm => ?_, d2.1⟩, fun h => by rw [hq] at h; cases h⟩
      have := hdslt _ hm; omega
    · rcases List.mem_cons.1 hD with rfl | hD
      · exact ⟨hK1, hw0, fun hi => by have := h0.immlt _ hi; omega, fun hu => by have := (h0.usedlt hu).1; omega⟩
      · obtain ⟨g1, g2, g3, g4⟩ := d3 D hD
        exact ⟨(hext1.block D (hdslt D hD) (fun h => h)).trans g1, g2, g3, g4⟩
  refine ⟨l, [mark w.heap.size], W1, { target := .fn (.func f) us.toArray, args := #[.func (.yield l) #[] #[]] }, W1, f, #[.func (.yield l) #[] #[]] ++ us.toArray, W1, ?_, ?_, fun f' _ => hF.fn f', ?_, fun hd => by simp [hF.depth] at hd, ?_⟩
  · rw [← hW1, hrec, hl]; exact run_enterLoop_outer _ _ _ _ _
  · simp only [resolve, hae]
    simp [go_sem]
  · simp [invoke, go_sem, hent _ _]
  have hw0' : E.w0.heap.size ≤ W1.heap.size := by omega
  let J : Option Nat → (Nat → Prop) → (Nat → Prop) → World → Prop := fun o => match o with
    | some k => fun imm Z W => R k ∧ JJ E a₀ W1 l (rec .ready none) (S k) imm Z W
    | none => fun imm Z W => ∃ (c : Code) (stx : St), ((c = .ret ∧ K .ret stx) ∨ ∃ id, c = .exit id ∧ K (.exit id) stx) ∧ JJ E a₀ W1 l (rec .done (some c)) stx imm Z W
  have hJst : ∀ o, JStable (J o) := by
    intro o
    cases o with
    | some k =>
      rintro imm Z W imm' Z' W' Wt ⟨h1, h2⟩ g1 g2 g3 g4 g5 g6
      exact ⟨h1, JJ_stable hJ hsz1 hw0' hds imm Z W imm' Z' W' Wt h2 g1 g2 g3 g4 g5 g6⟩
    | none =>
      rintro imm Z W imm' Z' W' Wt ⟨c, stx, h1, h2⟩ g1 g2 g3 g4 g5 g6
      exact ⟨c, stx, h1, JJ_stable hJ hsz1 hw0' hds imm Z W imm' Z' W' Wt h2 g1 g2 g3 g4 g5 g6⟩
  have hcall := hspec W1 imm0 us l n J (fun x hx => by have := h0.immlt x hx; omega) hR1.glob (F2.mono (fun _ _ _ hq => hq.mono (fun _ h => h) (fun b hb => hext1.block b (h0.immlt b hb) (fun h => h))) hus) hJst ?_
    ⟨hR0, ρ0, hR1, hL1, fun hi => by have := h0.immlt _ hi; omega, fun hu => by have := (h0.usedlt hu).1; omega, fun _ h => h.elim⟩
  · refine (hF.calls (n - 1) hcall).mono ?_
    rintro e W2 ⟨⟨v, rfl⟩, imm2, ⟨hRn, ρ2, hr, hlp, hli, hlu, _⟩ | ⟨c, stx, hc, ρ2, hr, hlp, hli, hlu, _⟩⟩
    all_goals
      have hmk : ([mark w.heap.size] ++ a.defers) = a₀.defers := by rw [ha₀]; rfl
      have haa : ({ a with defers := [mark w.heap.size] ++ a.defers } : Act) = a₀ := by rw [ha₀]; rfl
      have hend' : ∀ (r : Loop), W2.heap[l]? = some (.loop r) → ∀ (stx : St), Real E (fun b => b < stx.nx) stx.sl stx.hp ρ2 imm2 a₀ W2 → ¬ usedBy stx.hp ρ2 l → Real E (fun b => b < stx.nx) stx.sl stx.hp ρ2 imm2 a₀ (W2.putObj l (.loop { r with state := .exhausted })) := by
        intro r hlr stx hr hlu
        refine hr.later (ext_setBlk (b := l)) (fun x hx => by subst hx; exact ⟨hli, hlu, .inl (by omega)⟩) (fun _ h => h) (fun x hx => ⟨by have := hr.immlt x hx; simpa using this, fun hu => (hr.usedlt hu).2.1 hx, hr.immF x hx⟩) rfl ?_ (hJ _ _ _)
        obtain ⟨ds, e1, e2, e3⟩ := hr.defs
        refine ⟨ds, e1, e2, fun D hD => ?_⟩
        obtain ⟨g1, g2, g3, g4⟩ := e3 D hD
        have hne : D ≠ l := fun e => by rw [e, hlr] at g1; cases g1
        exact ⟨(World.putObj_heap_other hne).trans g1, g2, g3, g4⟩
    · refine ⟨none, W2.putObj l (.loop { rec .ready none with state := .exhausted }), ?_, ?_⟩
      · exact (run_endLoop (P := P) hlp (by rw [hrec]; simp)).trans (by rw [hrec])
      · rw [haa]
        have := hend' _ hlp (S items.length) hr hlu
        exact ⟨S items.length, ρ2, imm2, hend hRn, this⟩
    · refine ⟨some c, W2.putObj l (.loop { rec .done (some c) with state := .exhausted }), ?_, ?_⟩
      · exact (run_endLoop (P := P) hlp (by rw [hrec]; simp)).trans (by rw [hrec])
      · rw [haa]
        have hr2 := hend' _ hlp stx hr hlu
        rcases hc with ⟨rfl, hk⟩ | ⟨id, rfl, hk⟩
        · exact wpIn_ret ⟨stx, ρ2, imm2, hk, hr2⟩
        · exact wpIn_exit ⟨stx, ρ2, imm2, hk, hr2⟩
  · -- a round
    rintro k it imm1 Z1 Wk v hk ⟨hRk, ρk, hr, hlk, hli, hlu, hz⟩ himm1 hZ1 ⟨us1, hus1, hv1⟩
    have hlWk : l < Wk.heap.size := (Array.getElem?_eq_some_iff.1 hlk).1
    have hlZ : ¬ Z1 l := fun h => by have := (hz l h).1; omega
    have hy := run_yield (P := P) (args := #[v]) hlk (by rw [hrec]; rfl)
    rw [hrec] at hy
    obtain ⟨dsk, e1, e2, e3⟩ := hr.defs
    have hpers := hitp it (List.mem_of_getElem? hk)
    let G : Nat → Prop := fun x => x = l ∨ Z1 x ∨ x ∈ dsk
    let gW : Option Obj → Nat → Option Obj := fun o x => if x = l then o else Wk.heap[x]?
    let E1 : Option Obj → Env := fun o => { nt := E.nt, w0 := Wk, S := fun x => usedBy (S k).hp ρk x ∨ x = l, imm0 := imm1, gl := E.gl, defs := [], q := false, pinr := none, pin := pinsOf (S k) ρk, J := guardJ G (gW o), jst := guardJ_stable _ _ }
    have hG : ∀ x, G x → x ≠ l → ¬ imm1 x ∧ ¬ usedBy (S k).hp ρk x ∧ (Wk.heap[x]?).isSome = true := by
      rintro x (rfl | hx | hx) hne
      · exact absurd rfl hne
      · refine ⟨(hZ1 x hx).2, (hz x hx).2, ?_⟩
        rw [Array.getElem?_eq_getElem (hZ1 x hx).1]; rfl
      · obtain ⟨g1, g2, g3, g4⟩ := e3 x hx
        exact ⟨g3, g4, by rw [g1]; rfl⟩
    have hr1 : Real (E1 (some (.loop (rec .ready none)))) (fun b => b < (S k).nx) (putS (strip (S k).hp (S k).sl) (some p) (.c it.1 it.2)) (S k).hp ρk imm1 { tmps := a₀.tmps.setIfInBounds p v, defers := [] } Wk := by
      refine hr.turn (E' := E1 _) (Wt := fun _ => False) (.refl _ _) (fun _ h => h.elim) (fun _ h => h) (fun x hx => ⟨himm1 x hx, fun hu => (hr.usedlt hu).2.1 hx, .inl hx⟩) (by simpa using hr.nt) rfl (fun i => ?_) (fun x hx => .inr (.inl hx)) (fun _ h => h) (.refl _ _) (fun b c hc => pinsOf_spec hc) (fun c h => by cases h)
        ⟨[], rfl, ⟨List.nodup_nil, fun _ => rfl⟩, by simp⟩ (fun x hx => ?_)
      · have hpl : p < a₀.tmps.size := by rw [hr.nt]; omega
        have e0 : (a₀.tmps.setIfInBounds p v).getD i undef = if i = p then v else a₀.tmps.getD i undef := by
          have := put_getD { tmps := a₀.tmps, defers := [] } p i v hpl
          simpa [Act.put] using this
        simp only [putS, upd_apply, e0]
        by_cases hip : i = p
        · simp only [hip, if_true]
          refine ⟨⟨us1, F2.mono (fun _ _ _ hq => .of_PR hq) hus1, hv1⟩, fun y hy => .none_id ?_⟩
          exact pers_noid0 (List.all_eq_true.1 hpers y hy)
        · simp only [hip, if_false]
          exact ⟨stripS_RS (fun _ h => h) (fun _ _ => rfl) (fun _ _ _ _ _ _ => rfl) (hr.wf.ids i) (hr.slots i), stripS_ok (fun b he h1 h2 h3 h4 => ⟨h4, h3⟩) (hr.wf.ids i)⟩
      · by_cases hxl : x = l
        · subst hxl
          exact ⟨hli, hlu, by simp only [gW, if_true]; exact hlk, by simp [gW]⟩
        · obtain ⟨g1, g2, g3⟩ := hG x hx hxl
          exact ⟨g1, g2, by simp only [gW, hxl, if_false], by simp only [gW, hxl, if_false]; exact g3⟩
    refine ⟨fn, _, asg, body, hy, roundIn_of_wpIn trivial ?_⟩
    have htm : ((#[p] : Array Nat).zip #[v]).foldl (fun tmps (t, a) => tmps.setIfInBounds t a) a.tmps = a₀.tmps.setIfInBounds p v := by rw [ha₀]; simp
    have hasg := ihasg (E1 (some (.loop (rec .ready none)))) l n _ _ ρk imm1 _ Wk hnt rfl hr1 (hround k it hk hRk)
    refine wpIn_mono (a := { tmps := ((#[p] : Array Nat).zip #[v]).foldl (fun tmps (t, a) => tmps.setIfInBounds t a) a.tmps, defers := [] }) (by rw [htm]; exact hasg) fun e a1 Wa hpost => ?_
    cases e with
    | exit i => obtain ⟨_, _, _, hk, _⟩ := hpost; exact hk.elim
    | ret => obtain ⟨_, _, _, hk, _⟩ := hpost; exact hk.elim
    | goto => exact hpost.elim
    | panic => exact hpost.elim
    | outgrown => exact hpost.elim
    | normal =>
      obtain ⟨st1, ρ1, i1, hwb, hRa⟩ := hpost
      have hgl := hRa.jinv l (.inl rfl)
      have hla : Wa.heap[l]? = some (.loop (rec .ready none)) := by rw [hgl.2.2.1]; simp only [gW, if_true]
      refine ⟨_, run_beginRound hla (by rw [hrec]), ?_⟩
      have hlWa : l < Wa.heap.size := (Array.getElem?_eq_some_iff.1 hla).1
      obtain ⟨W2, hW2⟩ : ∃ W2, Wa.putObj l (.loop { rec .ready none with state := .busy }) = W2 := ⟨_, rfl⟩
      rw [hW2]
      have hx2 : Ext (fun x => x = l) Wa W2 := by rw [← hW2]; exact ext_setBlk
      have hl2 : W2.heap[l]? = some (.loop { rec .ready none with state := .busy }) := by rw [← hW2]; exact World.putObj_heap_same hlWa
      have hRb : Real (E1 (some (.loop { rec .ready none with state := .busy }))) (fun b => b < st1.nx) st1.sl st1.hp ρ1 i1 a1 W2 := by
        have hblk : ∀ b, i1 b → W2.heap[b]? = Wa.heap[b]? := fun b hb => hx2.block b (hRa.immlt b hb) (fun e => hgl.1 (e ▸ hb))
        refine hRa.turn (E' := E1 _) hx2 (fun x hx => by subst hx; exact ⟨hgl.1, hgl.2.1⟩) (fun _ h => h) (fun x hx => ⟨Nat.lt_of_lt_of_le (hRa.immlt x hx) hx2.size, fun hu => (hRa.usedlt hu).2.1 hx, hRa.immF x hx⟩) hRa.nt rfl (fun i => ⟨(hRa.slots i).mono (fun _ h => h) hblk, hRa.wf.ids i⟩)
          (fun x hx => (hRa.usedlt hx).2.2) hRa.imm0 (hRa.ext.trans hx2 (fun x hx => .inl (.inr hx))) hRa.pin hRa.pinr ?_ (fun x hx => ?_)
        · obtain ⟨ds, f1, f2, f3⟩ := hRa.defs
          refine ⟨ds, f1, f2, fun D hD => ?_⟩
          obtain ⟨g1, g2, g3, g4⟩ := f3 D hD
          have hne : D ≠ l := fun e => by rw [e, hla] at g1; cases g1
          exact ⟨(hx2.block D (Array.getElem?_eq_some_iff.1 g1).1 hne).trans g1, g2, g3, g4⟩
        · obtain ⟨g1, g2, g3, g4⟩ := hRa.jinv x hx
          by_cases hxl : x = l
          · subst hxl
            exact ⟨g1, g2, by simp only [gW, if_true]; exact hl2, by simp [gW]⟩
          · simp only [gW, hxl, if_false] at g3 g4 ⊢
            refine ⟨g1, g2, ?_, g4⟩
            have hlt : x < Wa.heap.size := by
              rw [← g3] at g4
              obtain ⟨o, ho⟩ := Option.isSome_iff_exists.1 g4
              exact (Array.getElem?_eq_some_iff.1 ho).1
            exact (hx2.block x hlt hxl).trans g3
      have hbody := ihbody (E1 (some (.loop { rec .ready none with state := .busy }))) l n _ _ ρ1 i1 _ W2 hnt rfl hRb hwb
      refine wpIn_mono hbody fun e a3 W3 hpost => ?_
      -- back to the loop's state
      let E3 : Option Obj → Env := fun o => { E with imm0 := imm1, J := guardJ G (gW o), jst := guardJ_stable _ _ }
      have back : ∀ (st3 : St) (ρ3 : Nat → Cn) (i3 : Nat → Prop), Real (E1 (some (.loop { rec .ready none with state := .busy }))) (fun b => b < st3.nx) st3.sl st3.hp ρ3 i3 a3 W3 → ∀ r' : Loop,
          Real (E3 (some (.loop r'))) (fun b => b < st3.nx) (strip (S k).hp (S k).sl) st3.hp ρ3 i3 a₀ (W3.putObj l (.loop r')) ∧ W3.heap[l]? = some (.loop { rec .ready none with state := .busy }) ∧ Ext (fun x => ¬ imm1 x ∧ ¬ Z1 x) Wk (W3.putObj l (.loop r')) := by
        intro st3 ρ3 i3 h3 r'
        have hg3 := h3.jinv l (.inl rfl)
        have hl3 : W3.heap[l]? = some (.loop { rec .ready none with state := .busy }) := by rw [hg3.2.2.1]; simp only [gW, if_true]
        have hlW3 : l < W3.heap.size := (Array.getElem?_eq_some_iff.1 hl3).1
        have hx4 : Ext (fun x => x = l) W3 (W3.putObj l (.loop r')) := ext_setBlk
        have hext3 : Ext (fun x => usedBy (S k).hp ρk x ∨ x = l) Wk (W3.putObj l (.loop r')) := h3.ext.trans hx4 (fun x hx => .inl (.inr hx))
        have hblk : ∀ b, imm1 b → (W3.putObj l (.loop r')).heap[b]? = Wk.heap[b]? := fun b hb => hext3.block b (himm1 b hb) (fun hx => by
          rcases hx with hx | hx
          · exact (hr.usedlt hx).2.1 hb
          · exact hli (hx ▸ hb))
        have hsub : ∀ x, imm1 x → i3 x := h3.imm0
        have hpin3 : ∀ b, b < 100 → b < (S k).nx → (∀ kk xs, (S k).hp b ≠ some (.row kk xs)) → b < st3.nx ∧ ρ3 b = ρk b ∧ ∀ kk xs, st3.hp b ≠ some (.row kk xs) := fun b h1 h2 h3' => by
          have := h3.pin b (ρk b) (pinsOf_at h1 h2 h3')
          exact ⟨this.2.1, this.2.2.1, this.2.2.2⟩
        refine ⟨?_, hl3, ?_⟩
        · refine h3.turn (E' := E3 _) hx4 (fun x hx => by subst hx; exact ⟨hg3.1, hg3.2.1⟩) (fun _ h => h) (fun x hx => ⟨Nat.lt_of_lt_of_le (h3.immlt x hx) hx4.size, fun hu => (h3.usedlt hu).2.1 hx, ?_⟩) hr.nt rfl (fun i => ⟨?_, ?_⟩) (fun x hx => ?_) hsub (hr.ext.trans hext3 (fun x hx => ?_)) (fun b c hc => ?_) (fun c h => by have h : E.pinr = some c := h; rw [hpr] at h; cases h) ⟨dsk, e1, e2, fun D hD => ?_⟩ (fun x hx => ?_)
          · rcases h3.immF x hx with h4 | h4 | h4 | h4
            · exact .inl h4
            · exact .inr (.inl (Nat.le_trans hr.ext.size h4))
            · exact .inr (hr.usedlt h4).2.2
            · rw [h4]; exact .inr (.inl (show E.w0.heap.size ≤ l by omega))
          · exact stripS_RS hsub hblk (fun b he h1 h2 h3' h4 => (hpin3 b h1 h4 h3').2.1) (hr.wf.ids i) (hr.slots i)
          · exact stripS_ok (fun b he h1 h2 h3' h4 => ⟨(hpin3 b h1 h4 h3').1, (hpin3 b h1 h4 h3').2.2⟩) (hr.wf.ids i)
          · rcases (h3.usedlt hx).2.2 with h4 | h4 | h4
            · exact .inl (Nat.le_trans hr.ext.size h4)
            · exact (hr.usedlt h4).2.2
            · rw [h4]; exact .inl (show E.w0.heap.size ≤ l by omega)
          · rcases hx with hx | hx
            · exact (hr.usedlt hx).2.2.symm
            · rw [hx]; exact .inr (show E.w0.heap.size ≤ l by omega)
          · obtain ⟨g1, g2, g3, g4⟩ := hr.pin b c hc
            obtain ⟨f1, f2, f3⟩ := hpin3 b g1 g2 g4
            exact ⟨g1, f1, f2.trans g3, f3⟩
          · obtain ⟨g1, g2, g3, g4⟩ := e3 D hD
            obtain ⟨f1, f2, f3, f4⟩ := h3.jinv D (.inr (.inr hD))
            have hne : D ≠ l := fun e => by rw [e, hlk] at g1; cases g1
            simp only [gW, hne, if_false] at f3
            exact ⟨((World.putObj_heap_other hne).trans f3).trans g1, g2, f1, f2⟩
          · obtain ⟨f1, f2, f3, f4⟩ := h3.jinv x hx
            by_cases hxl : x = l
            · subst hxl
              exact ⟨f1, f2, by simp only [gW, if_true]; exact World.putObj_heap_same hlW3, by simp [gW]⟩
            · simp only [gW, hxl, if_false] at f3 f4 ⊢
              exact ⟨f1, f2, (World.putObj_heap_other hxl).trans f3, f4⟩
        · refine hext3.mono fun x hx => ?_
          rcases hx with hx | hx
          · exact ⟨(hr.usedlt hx).2.1, fun hzx => (hz x hzx).2 hx⟩
          · rw [hx]; exact ⟨hli, hlZ⟩
      have out : ∀ (stx : St) (ρ3 : Nat → Cn) (i3 : Nat → Prop) (r' : Loop) (W4 : World), Real (E3 (some (.loop r'))) (fun b => b < stx.nx) stx.sl stx.hp ρ3 i3 a₀ W4 →
          JJ E a₀ W1 l r' stx i3 Z1 W4 ∧ (∀ x, imm1 x → i3 x) ∧ ∀ x, i3 x → x < W4.heap.size ∧ ¬ Z1 x := by
        intro stx ρ3 i3 r' W4 h4
        have hg4 := h4.jinv l (.inl rfl)
        refine ⟨⟨ρ3, ?_, by rw [hg4.2.2.1]; simp only [gW, if_true], hg4.1, hg4.2.1, fun x hx => ⟨(hz x hx).1, (h4.jinv x (.inr (.inl hx))).2.1⟩⟩, h4.imm0, fun x hx => ⟨h4.immlt x hx, fun hzx => (h4.jinv x (.inr (.inl hzx))).1 hx⟩⟩
        refine h4.turn (E' := E) (Wt := fun _ => False) (.refl _ _) (fun _ h => h.elim) (fun _ h => h) (fun x hx => ⟨h4.immlt x hx, fun hu => (h4.usedlt hu).2.1 hx, ?_⟩) h4.nt rfl (fun i => ⟨h4.slots i, h4.wf.ids i⟩) (fun x hx => (h4.usedlt hx).2.2) (fun x hx => h4.imm0 x (hr.imm0 x hx)) h4.ext h4.pin h4.pinr h4.defs (hJ _ _ _)
        rcases h4.immF x hx with h5 | h5
        · exact hr.immF x h5
        · exact .inr h5
      have fin : ∀ (jump : Option Code) (W3 : World), W3.heap[l]? = some (.loop { rec .ready none with state := .busy }) →
          (Instr.endRound l jump).run P W3 = .ok (.bool jump.isNone) (W3.putObj l (.loop (rec (if jump.isNone then .ready else .done) jump))) := by
        intro jump W3 hl3
        have := run_endRound (P := P) jump hl3
        rw [hrec] at this ⊢
        exact this
      cases e with
      | normal =>
        obtain ⟨st3, ρ3, i3, hk3, h3⟩ := hpost
        obtain ⟨g1, g2, g3⟩ := back st3 ρ3 i3 h3 (rec .ready none)
        obtain ⟨ρ4, i4, h4⟩ := hk3.2 (E3 (some (.loop (rec .ready none)))) ρ3 i3 a₀ _ rfl g1
        obtain ⟨f1, f2, f3⟩ := out _ ρ4 i4 (rec .ready none) _ h4
        exact ⟨_, _, fin none W3 g2, true, i4, rfl, ⟨hk3.1, f1⟩, f2, f3, g3⟩
      | ret =>
        obtain ⟨st3, ρ3, i3, hk3, h3⟩ := hpost
        obtain ⟨g1, g2, g3⟩ := back st3 ρ3 i3 h3 (rec .done (some .ret))
        obtain ⟨f1, f2, f3⟩ := out ⟨strip (S k).hp (S k).sl, st3.hp, st3.nx⟩ ρ3 i3 (rec .done (some .ret)) _ g1
        exact ⟨_, _, fin (some .ret) W3 g2, false, i3, rfl, ⟨.ret, _, .inl ⟨rfl, hk3⟩, f1⟩, f2, f3, g3⟩
      | exit i =>
        obtain ⟨st3, ρ3, i3, hk3, h3⟩ := hpost
        obtain ⟨g1, g2, g3⟩ := back st3 ρ3 i3 h3 (rec .done (some (.exit i)))
        obtain ⟨f1, f2, f3⟩ := out ⟨strip (S k).hp (S k).sl, st3.hp, st3.nx⟩ ρ3 i3 (rec .done (some (.exit i))) _ g1
        exact ⟨_, _, fin (some (.exit i)) W3 g2, false, i3, rfl, ⟨.exit i, _, .inr ⟨i, rfl, hk3⟩, f1⟩, f2, f3, g3⟩
      | goto => exact hpost.elim
      | panic => exact hpost.elim
      | outgrown => exact hpost.elim
end Go.Proofs.YtlbafapmhjfobaaGreatDoor
namespace Go.Proofs.YtlbafapmhjfobaaGreatDoor
variable {P : Program}

/-- ranges over functions: where nobody else is behind us, and in no round -/
def RngOk (ac : ACode) (F : Fence) (E : Env) : Prop := noRng ac = true ∨ (F.round = none ∧ (∀ i z w, E.J i z w) ∧ E.q = false ∧ E.pinr = none)

theorem W_sound {nt : Nat} {fz : List Nat} (hfol : P.follows .mixedOrders = true) : ∀ (c : Code) (E : Env) (F : Fence) (n : Nat) (ac : ACode) (st : St) (K : Ex → St → Prop) (ρ : Nat → Cn) (imm : Nat → Prop) (a : Act) (w : World),
    nt = E.nt → WideF F → RngOk ac F E → comp P nt fz c = some ac → Real E (fun b => b < st.nx) st.sl st.hp ρ imm a w → W P E.gl ac st K → c.wpIn F n P (PostX E K) a w := by
  intro c
  induction c with
  | skip =>
    intro E F n ac st K ρ imm a w hnt hF hrg hc h hs
    simp only [comp, Option.some.injEq] at hc; subst hc
    exact wpIn_skip ⟨st, ρ, imm, hs, h⟩
  | label l =>
    intro E F n ac st K ρ imm a w hnt hF hrg hc h hs
    simp only [comp, Option.some.injEq] at hc; subst hc
    exact wpIn_label ⟨st, ρ, imm, hs, h⟩
  | exit id =>
    intro E F n ac st K ρ imm a w hnt hF hrg hc h hs
    simp only [comp, Option.some.injEq] at hc; subst hc
    exact wpIn_exit ⟨st, ρ, imm, hs, h⟩
  | ret =>
    intro E F n ac st K ρ imm a w hnt hF hrg hc h hs
    simp only [comp, Option.some.injEq] at hc; subst hc
    exact wpIn_ret ⟨st, ρ, imm, hs, h⟩
  | region id ops draw =>
    intro E F n ac st K ρ imm a w hnt hF hrg hc h hs
    simp only [comp, Option.bind_eq_some_iff] at hc
    obtain ⟨os, hos, hc⟩ := hc
    have key : ∀ (st : St) (ρ : Nat → Cn) (imm : Nat → Prop), (draw && !statOk os) = false → Real E (fun b => b < st.nx) st.sl st.hp ρ imm a w → W P E.gl (.reg draw os) st K → (Code.region id ops draw).wpIn F n P (PostX E K) a w := by
      intro st ρ imm hst h hs
      cases draw with
      | true =>
        simp only [Bool.true_and, Bool.not_eq_false'] at hst
        refine wpIn_region_any hfol ?_
        exact evD_sound hnt hF hos hst (fun a w h => h) (h.same rfl rfl rfl rfl (Nat.le_succ _)) hs
      | false =>
        refine wpIn_region ?_
        have := evT_sound (F := F) (n := n) (Q := PostX E K) (R := K .normal) hnt hF (fun a w h => h) ops.toList 0 os st a w ρ imm rfl hos h hs
        rw [List.range_eq_range']
        simpa using this
    split at hc
    · cases hc
    · rename_i hst
      simp only [Bool.not_eq_true] at hst
      split at hc
      · simp only [Option.some.injEq] at hc; subst hc
        obtain ⟨st', hw, hs⟩ := hs
        obtain ⟨ρ', imm', h'⟩ := hw E ρ imm a w rfl h
        exact key st' ρ' imm' hst h' hs
      · simp only [Option.some.injEq] at hc; subst hc
        exact key st ρ imm hst h hs
  | seq x y ihx ihy =>
    intro E F n ac st K ρ imm a w hnt hF hrg hc h hs
    simp only [comp, Option.bind_eq_some_iff, Option.map_eq_some_iff] at hc
    obtain ⟨ax, hx, ay, hy, rfl⟩ := hc
    refine wpIn_seq (wpIn_mono (ihx E F n ax st _ ρ imm a w hnt hF (hrg.imp_left fun h => by simp only [noRng, Bool.and_eq_true] at h; exact h.1) hx h hs) fun e a' w' hp => ?_)
    cases e with
    | normal =>
      obtain ⟨st', ρ', imm', hk, hr⟩ := hp
      exact ihy E F n ay st' K ρ' imm' a' w' hnt hF (hrg.imp_left fun h => by simp only [noRng, Bool.and_eq_true] at h; exact h.2) hy hr hk
    | exit id => exact hp
    | ret => exact hp
    | goto => exact hp.elim
    | panic => exact hp.elim
    | outgrown => exact hp.elim
  | cond x y z ihy ihz =>
    intro E F n ac st K ρ imm a w hnt hF hrg hc h hs
    simp only [comp, Option.bind_eq_some_iff, Option.map_eq_some_iff] at hc
    obtain ⟨x', hx, ay, hy, az, hz, rfl⟩ := hc
    rw [W] at hs
    split at hs
    · rename_i t he
      exact wpIn_cond_split (t := t) (evv1 h hx he) (fun ht => ihy E F n ay st K ρ imm a w hnt hF (hrg.imp_left fun h => by simp only [noRng, Bool.and_eq_true] at h; exact h.1) hy h (hs.1 ht)) (fun ht => ihz E F n az st K ρ imm a w hnt hF (hrg.imp_left fun h => by simp only [noRng, Bool.and_eq_true] at h; exact h.2) hz h (hs.2 ht))
    · exact hs.elim
  | block id b ih =>
    intro E F n ac st K ρ imm a w hnt hF hrg hc h hs
    simp only [comp, Option.map_eq_some_iff] at hc
    obtain ⟨ab, hb, rfl⟩ := hc
    refine wpIn_block (wpIn_mono (ih E F n ab st _ ρ imm a w hnt hF (hrg.imp_left fun h => h) hb h hs) fun e a' w' hp => ?_)
    cases e with
    | normal => exact hp
    | exit i =>
      obtain ⟨st', ρ', imm', hk, hr⟩ := hp
      simp only [Exit.inBlock]
      simp only [blockK] at hk
      split
      · rename_i he; rw [if_pos he] at hk; exact ⟨st', ρ', imm', hk, hr⟩
      · rename_i he; rw [if_neg he] at hk; exact ⟨st', ρ', imm', hk, hr⟩
    | ret => exact hp
    | goto => exact hp.elim
    | panic => exact hp.elim
    | outgrown => exact hp.elim
  | scope b ih =>
    intro E F n ac st K ρ imm a w hnt hF hrg hc h hs
    simp only [comp, Option.map_eq_some_iff] at hc
    obtain ⟨ab, hb, rfl⟩ := hc
    refine wpIn_scope (wpIn_mono (ih E F n ab st _ ρ imm a w hnt hF (hrg.imp_left fun h => h) hb h hs) fun e a' w' hp => ?_)
    cases e with
    | normal => exact hp
    | exit i => exact hp
    | ret => exact hp
    | goto => exact hp.elim
    | panic => exact hp.elim
    | outgrown => exact hp.elim
  | loop b ih =>
    intro E F n ac st K ρ imm a w hnt hF hrg hc h hs
    simp only [comp, Option.map_eq_some_iff] at hc
    obtain ⟨ab, hb, rfl⟩ := hc
    refine LoopAt.loop (hs (fun s => ∀ (ρ : Nat → Cn) (imm : Nat → Prop) (a : Act) (w : World), Real E (fun b => b < s.nx) s.sl s.hp ρ imm a w → LoopAt F n P b (PostX E K) a w) ?_ ρ imm a w h)
    intro s s' hwk hb1 ρ1 imm1 a1 w1 h1
    obtain ⟨ρ2, imm2, h2⟩ := hwk E ρ1 imm1 a1 w1 rfl h1
    refine LoopAt.round (wpIn_mono (ih E F n ab s' _ ρ2 imm2 a1 w1 hnt hF (hrg.imp_left fun h => h) hb h2 hb1) fun e a' w' hp => ?_)
    cases e with
    | normal =>
      obtain ⟨st3, ρ3, imm3, hx, hr3⟩ := hp
      exact hx ρ3 imm3 a' w' hr3
    | exit i => exact hp
    | ret => exact hp
    | goto => exact hp.elim
    | panic => exact hp.elim
    | outgrown => exact hp.elim
  | rangeFunc g ps asg body iha ihb =>
    intro E F n ac st K ρ imm a w hnt hF hrg hc h hs
    simp only [comp] at hc
    split at hc
    · rename_i p hps
      split at hc
      · rename_i hp
        simp only [Option.bind_eq_some_iff, Option.map_eq_some_iff] at hc
        obtain ⟨x, hx, aa, ha, ab, hb, rfl⟩ := hc
        rcases hrg with hrg | ⟨hro, hJ, hq, hpr⟩
        · cases hrg
        · have hps' : ps = #[p] := by apply Array.ext'; simpa using hps
          subst hps'
          have hnr : noRng aa = true ∧ noRng ab = true := by
            have := hs.1
            simpa only [Bool.and_eq_true] using this
          exact rng_sound hF hro hJ hq hpr hp hnt hx h (fun E1 l m st K ρ imm a w h1 h2 h3 h4 => iha E1 _ m aa st K ρ imm a w h1 (wideF_round l) (.inl hnr.1) ha h3 (by rw [h2]; exact h4))
            (fun E1 l m st K ρ imm a w h1 h2 h3 h4 => ihb E1 _ m ab st K ρ imm a w h1 (wideF_round l) (.inl hnr.2) hb h3 (by rw [h2]; exact h4)) hs
      · cases hc
    · cases hc
  | _ => intro E F n ac st K ρ imm a w hnt hF hrg hc; simp [comp] at hc
end Go.Proofs.YtlbafapmhjfobaaGreatDoor
namespace Go.Proofs.YtlbafapmhjfobaaGreatDoor
variable {P : Program} {E : Env} {A A' : Nat → Prop} {sl sl' : Nat → SV} {hp hp' : Nat → Option HE} {ρ : Nat → Cn} {imm : Nat → Prop} {a : Act} {w : World} {gl : Nat → Option (List AV)}

/-- a cell is looked at as another one, the blocks of D frozen -/
def coeF (hp : Nat → Option HE) (D : Nat → Prop) (x y : AV) : Prop :=
  x = y ∨ y = .any ∨ (∃ b n k xs, x = .own b n ∧ y = .li k xs ∧ D b ∧ hp b = some (.row k xs) ∧ n = xs.length) ∨ (∃ k, x = .nil ∧ y = .li k []) ∨
    (∃ b off cs, x = .ptr b off ∧ y = .ref (cs.drop off) ∧ D b ∧ hp b = some (.box cs) ∧ ∀ c ∈ cs, c.pers = true) ∨
    (∃ b n k xs lo hi, x = .part b n lo hi ∧ y = .li k ((xs.take hi).drop lo) ∧ D b ∧ hp b = some (.row k xs) ∧ n = xs.length ∧ lo ≤ hi ∧ hi ≤ xs.length)
def coeFS (hp : Nat → Option HE) (D : Nat → Prop) : SV → SV → Prop
  | _, .top => True
  | .c ag cs, .c ag' cs' => ag = ag' ∧ F2 (coeF hp D) cs cs'
  | .tup xs, .tup ys => F2 (fun p q => p.1 = q.1 ∧ F2 (coeF hp D) p.2 q.2) xs ys
  | _, _ => False
def coeFH (hp : Nat → Option HE) (D : Nat → Prop) (b : Nat) : Option HE → Prop
  | none => True
  | some (.box cs) => ¬ D b ∧ ∃ cs', hp b = some (.box cs') ∧ F2 (coeF hp D) cs' cs
  | some he => ¬ D b ∧ hp b = some he

def frozen (hp : Nat → Option HE) (ρ : Nat → Cn) (D : Nat → Prop) (imm : Nat → Prop) : Nat → Prop := fun x => imm x ∨ ∃ b he, D b ∧ hp b = some he ∧ he.uses (ρ b) ∧ x = (ρ b).blk

theorem F2.drop_get {R : AV → Value → Prop} {cs : List AV} {us : List Value} (h : F2 R cs us) (off : Nat) : F2 R (cs.drop off) (us.drop off) := h.drop off

theorem coeF.RA {D : Nat → Prop} (h : Real E A sl hp ρ imm a w) {x y : AV} {u : Value} (hc : coeF hp D x y) (hx : RA w imm ρ x u) : RA w (frozen hp ρ D imm) ρ y u := by
  have hsub : ∀ x, imm x → frozen hp ρ D imm x := fun x hx => .inl hx
  rcases hc with rfl | rfl | ⟨b, n, k, xs, rfl, rfl, hD, hb, hn⟩ | ⟨k, rfl, rfl⟩ | ⟨b, off, cs, rfl, rfl, hD, hb, hp⟩ | ⟨b, n, k, xs, lo, hi, rfl, rfl, hD, hb, hn, hlh, hhi⟩
  · exact hx.mono hsub (fun _ _ => rfl)
  · exact hx.one
  · obtain ⟨g1, g2, g3, g4⟩ := h.heap b _ hb
    have hval := hx.2 (by rw [hn, g1])
    rcases g4 with ⟨rfl, g5⟩ | ⟨cap, us0, rest, e, g5, g6, g7, g8, g9⟩
    · rw [hval, g5]; exact .of_PR .linil
    · rw [hval, g5]
      have hu : (HE.row k xs).uses (ρ b) := by simp [HE.uses, g5]
      exact .of_PR (.mkli rfl g6 g3 (fun i hi => by rw [Nat.zero_add, cellsAt g8, List.getElem?_append_left hi]) (fun _ => .inr ⟨b, _, hD, hb, hu, rfl⟩) (F2.mono (fun _ _ _ hq => hq.mono hsub (fun _ _ => rfl)) g9))
  · have := RA_v hx
    subst this
    exact .of_PR .linil
  · obtain ⟨us, el, g1, g2⟩ := h.heap b _ hb
    have hx : u = _ := hx
    subst hx
    refine .of_PR (.ref (us.drop off) ?_ (fun i hi => ?_) (.inr ⟨b, _, hD, hb, trivial, rfl⟩) (fun j x u hj hu => ?_))
    · simp only [List.length_drop]; rw [← g2.length]
    · rw [cellsAt g1, List.getElem?_drop]
    · have h1 := (g2.drop off).get hj hu
      have h2 := hp x (List.mem_of_mem_drop (List.mem_of_getElem? hj))
      rw [RA.of_pers h2] at h1
      exact h1.mono hsub (fun _ _ => rfl)
  · obtain ⟨g1, g2, g3, g4⟩ := h.heap b _ hb
    have hval := hx.2 (by rw [hn, g1])
    rcases g4 with ⟨rfl, g5⟩ | ⟨cap, us0, rest, e, g5, g6, g7, g8, g9⟩
    · rw [hval, g5]; simp only [List.take_nil, List.drop_nil]; exact .of_PR .linil
    · rw [hval, g5, g2]
      have hu : (HE.row k xs).uses (ρ b) := by simp [HE.uses, g5]
      have hw : PR w (frozen hp ρ D imm) (.li k xs) (.slice (some ⟨(ρ b).blk, 0, none⟩) xs.length cap) :=
        .mkli rfl g6 g3 (fun i hi => by rw [Nat.zero_add, cellsAt g8, List.getElem?_append_left hi]) (fun _ => .inr ⟨b, _, hD, hb, hu, rfl⟩) (F2.mono (fun _ _ _ hq => hq.mono hsub (fun _ _ => rfl)) g9)
      exact .of_PR (hw.li_sub hlh hhi)

theorem coeF.okC {D : Nat → Prop} (hA : ∀ b, A b → A' b) (hH : ∀ b, coeFH hp D b (hp' b)) {x y : AV} (hc : coeF hp D x y) (hx : okC A hp x) : okC A' hp' y := by
  rcases hc with rfl | rfl | ⟨b, n, k, xs, rfl, rfl, _⟩ | ⟨k, rfl, rfl⟩ | ⟨b, off, cs, rfl, rfl, _⟩ | ⟨b, n, k, xs, lo, hi, rfl, rfl, _⟩
  · intro b hb
    refine ⟨hA b (hx b hb).1, fun k xs hk => (hx b hb).2 k xs ?_⟩
    have := hH b
    rw [hk] at this
    exact this.2
  all_goals exact .none_id rfl

theorem F2.via {α β γ : Type} {R : α → β → Prop} {S : α → γ → Prop} {T : β → γ → Prop} {xs : List α} {ys : List β} {zs : List γ} (h : ∀ x ∈ xs, ∀ y z, R x y → S x z → T y z) (h1 : F2 R xs ys) (h2 : F2 S xs zs) : F2 T ys zs := F2.comp h h1 h2
theorem F2.memr {α β : Type} {R : α → β → Prop} : ∀ {xs : List α} {ys : List β}, F2 R xs ys → ∀ y ∈ ys, ∃ x ∈ xs, R x y
  | [], [], _, _, hy => by simp at hy
  | x :: xs, y :: ys, h, z, hz => by
    rcases List.mem_cons.1 hz with rfl | hz
    · exact ⟨x, by simp, h.1⟩
    · obtain ⟨q, hq, hr⟩ := F2.memr h.2 z hz
      exact ⟨q, by simp [hq], hr⟩
  | [], _ :: _, h, _, _ => h.elim
  | _ :: _, [], h, _, _ => h.elim

theorem coeFS.RS {D : Nat → Prop} (h : Real E A sl hp ρ imm a w) {x y : SV} {u : Value} (hc : coeFS hp D x y) (hx : RS w imm ρ x u) : RS w (frozen hp ρ D imm) ρ y u := by
  cases y with
  | top => trivial
  | c ag' cs' => cases x with
    | c ag cs =>
      obtain ⟨rfl, hc⟩ := hc
      obtain ⟨us, h1, h2⟩ := hx
      exact ⟨us, F2.comp (fun x _ y z h1 h2 => h1.RA h h2) hc h1, h2⟩
    | _ => exact hc.elim
  | tup ys => cases x with
    | tup xs =>
      obtain ⟨us, h1, h2⟩ := hx
      refine ⟨us, h1, F2.comp (fun p _ q z hpq hpz => ?_) hc h2⟩
      obtain ⟨vs, h3, h4⟩ := hpz
      exact ⟨vs, F2.comp (fun x _ y z h1 h2 => h1.RA h h2) hpq.2 h3, by rw [← hpq.1]; exact h4⟩
    | _ => exact hc.elim
theorem coeFS.mem {D : Nat → Prop} {x y : SV} (hc : coeFS hp D x y) : ∀ d ∈ y.cells, ∃ c ∈ x.cells, coeF hp D c d := by
  intro d hd
  cases y with
  | top => simp [SV.cells] at hd
  | c ag' cs' => cases x with
    | c ag cs => exact F2.memr hc.2 d hd
    | _ => exact hc.elim
  | tup ys => cases x with
    | tup xs =>
      simp only [SV.cells, List.mem_flatMap] at hd ⊢
      obtain ⟨q, hq, hd⟩ := hd
      obtain ⟨p, hp, hpq⟩ := F2.memr hc q hq
      obtain ⟨c, hc', hcd⟩ := F2.memr hpq.2 d hd
      exact ⟨c, ⟨p, hp, hc'⟩, hcd⟩
    | _ => exact hc.elim

theorem Real.freeze (D : Nat → Prop) (h : Real E A sl hp ρ imm a w) (hA : ∀ b, A b → A' b) (hS : ∀ i, coeFS hp D (sl i) (sl' i)) (hH : ∀ b, coeFH hp D b (hp' b)) :
    Real E A' sl' hp' ρ (frozen hp ρ D imm) a w := by
  have hsub : ∀ x, imm x → frozen hp ρ D imm x := fun x hx => .inl hx
  have hold : ∀ b he', hp' b = some he' → ¬ D b ∧ ∃ he, hp b = some he ∧ (he'.uses (ρ b) → he.uses (ρ b)) ∧ (∀ d ∈ he'.cells, ∃ c ∈ he.cells, coeF hp D c d) ∧ (RH w imm ρ (ρ b) he → RH w (frozen hp ρ D imm) ρ (ρ b) he') := by
    intro b he' hb
    have hh := hH b
    rw [hb] at hh
    cases he' with
    | box cs =>
      obtain ⟨hD, cs', h1, h2⟩ := hh
      refine ⟨hD, _, h1, fun _ => trivial, F2.memr h2, ?_⟩
      rintro ⟨us, el, g1, g2⟩
      exact ⟨us, el, g1, F2.comp (fun x _ y z h1 h2 => h1.RA h h2) h2 g2⟩
    | row k xs => exact ⟨hh.1, _, hh.2, fun hu => hu, fun d hd => by simp [HE.cells] at hd, fun hr => hr.mono hsub (fun _ _ => rfl) (fun _ => rfl)⟩
    | keys ds ks => exact ⟨hh.1, _, hh.2, fun hu => hu, fun d hd => by simp [HE.cells] at hd, fun hr => hr.mono hsub (fun _ _ => rfl) (fun _ => rfl)⟩
  have hused' : ∀ x, usedBy hp' ρ x → usedBy hp ρ x := by
    rintro x ⟨b, he', hb, hu, rfl⟩
    obtain ⟨_, he, h1, h2, _⟩ := hold b he' hb
    exact ⟨b, he, h1, h2 hu, rfl⟩
  have hlt' : ∀ x, frozen hp ρ D imm x → x < w.heap.size := by
    rintro x (hx | ⟨b, he, _, hb, hu, rfl⟩)
    · exact h.immlt x hx
    · exact (h.used b he hb hu).1
  refine { wf := ⟨fun i x hx => ?_, fun b he hb => ?_⟩, slots := fun i => (hS i).RS h (h.slots i), nt := h.nt, defs := ?_, heap := fun b he hb => ?_, used := fun b he hb hu => ?_, inj := ?_, immlt := ?_, imm0 := fun x hx => .inl (h.imm0 x hx), immF := ?_, ext := h.ext, glob := fun g cs hg => (h.glob g cs hg).mono hsub (fun _ _ => rfl), pin := fun b c hc => ⟨(h.pin b c hc).1, hA b (h.pin b c hc).2.1, (h.pin b c hc).2.2.1, fun k xs hb => ?_⟩, pinr := fun c hc => ⟨hA 0 (h.pinr c hc).1, fun k xs hb => ?_⟩, jinv := E.jst _ _ _ _ _ _ (fun _ => False) h.jinv (fun x hx => by obtain ⟨b, he, hb, hu, rfl⟩ := hx; exact ⟨(h.used b he hb hu).1, (h.used b he hb hu).2.1⟩) (.refl _ _) (fun _ h => h.elim) hsub ?_ (fun x hx => .inl (hused' x hx)) }
  · obtain ⟨c, hc, hcd⟩ := (hS i).mem x hx
    exact hcd.okC hA hH (h.wf.ids i c hc)
  · obtain ⟨hD, he0, h1, _, h3, _⟩ := hold b he hb
    refine ⟨hA b (h.wf.idh b he0 h1).1, fun x hx => ?_⟩
    obtain ⟨c, hc, hcd⟩ := h3 x hx
    exact hcd.okC hA hH ((h.wf.idh b he0 h1).2 c hc)
  · obtain ⟨ds, e1, e2, e3⟩ := h.defs
    refine ⟨ds, e1, e2, fun x hx => ?_⟩
    obtain ⟨g1, g2, g3, g4⟩ := e3 x hx
    refine ⟨g1, g2, ?_, fun hu => g4 (hused' x hu)⟩
    rintro (hi | ⟨b, he, _, hb, hu, rfl⟩)
    · exact g3 hi
    · exact g4 ⟨b, he, hb, hu, rfl⟩
  · obtain ⟨hD, he0, h1, _, _, h4⟩ := hold b he hb
    exact h4 (h.heap b he0 h1)
  · obtain ⟨hD, he0, h1, h2, _, _⟩ := hold b he hb
    obtain ⟨g1, g2, g3⟩ := h.used b he0 h1 (h2 hu)
    refine ⟨g1, ?_, g3⟩
    rintro (hi | ⟨b', he', hD', hb', hu', hx⟩)
    · exact g2 hi
    · by_cases hbb : b = b'
      · subst hbb; exact hD hD'
      · exact h.inj b b' he0 he' h1 hb' (h2 hu) hu' hbb hx
  · intro b b' he he' hb hb' hu hu' hne
    obtain ⟨_, he0, h1, h2, _⟩ := hold b he hb
    obtain ⟨_, he0', h1', h2', _⟩ := hold b' he' hb'
    exact h.inj b b' he0 he0' h1 h1' (h2 hu) (h2' hu') hne
  · exact hlt'
  · rintro x (hx | ⟨b, he, _, hb, hu, rfl⟩)
    · exact h.immF x hx
    · exact .inr (h.used b he hb hu).2.2
  · have := hH b
    rw [hb] at this
    exact (h.pin b c hc).2.2.2 k xs this.2
  · have := hH 0
    rw [hb] at this
    exact (h.pinr c hc).2 k xs this.2
  · rintro x hx
    refine ⟨hlt' x hx, ?_⟩
    rcases hx with hx | ⟨b, he, _, hb, hu, rfl⟩
    · exact .inl hx
    · exact .inr (.inl ⟨b, he, hb, hu, rfl⟩)

/-- freezing, and dropping what is known -/
theorem Weak.freeze (D : Nat → Prop) {st st' : St} (hA : st.nx ≤ st'.nx) (hS : ∀ i, coeFS st.hp D (st.sl i) (st'.sl i)) (hH : ∀ b, coeFH st.hp D b (st'.hp b)) : Weak gl st st' :=
  fun _ ρ _ _ _ _ h => ⟨ρ, _, h.freeze D (fun _ hb => Nat.lt_of_lt_of_le hb hA) hS hH⟩
theorem Weak.refl (st : St) : Weak gl st st := fun _ ρ imm _ _ _ h => ⟨ρ, imm, h⟩
theorem Weak.trans {s1 s2 s3 : St} (h1 : Weak gl s1 s2) (h2 : Weak gl s2 s3) : Weak gl s1 s3 := fun E ρ imm a w hg h => by
  obtain ⟨ρ', imm', h'⟩ := h1 E ρ imm a w hg h
  exact h2 E ρ' imm' a w hg h'

/-- nil (in slots and boxes) is looked at as a row of ours without elements -/
def coeN (j : Nat) (x y : AV) : Prop := x = y ∨ (x = .nil ∧ y = .own j 0)
def coeNS (j : Nat) : SV → SV → Prop
  | .top, .top => True
  | .c ag cs, .c ag' cs' => ag = ag' ∧ F2 (coeN j) cs cs'
  | .tup xs, .tup ys => xs = ys
  | _, _ => False
def coeNH (j : Nat) : Option HE → Option HE → Prop
  | some (.box cs'), some (.box cs) => F2 (coeN j) cs' cs
  | x, y => x = y
end Go.Proofs.YtlbafapmhjfobaaGreatDoor
namespace Go.Proofs.YtlbafapmhjfobaaGreatDoor
variable {P : Program} {E : Env} {gl : Nat → Option (List AV)}

theorem coeN.RA {w : World} {imm : Nat → Prop} {ρ : Nat → Cn} {j k : Nat} {x y : AV} {u : Value} (hc : coeN j x y) (hid : x.id? ≠ some j) (hx : RA w imm ρ x u) :
    RA w imm (upd ρ j ⟨0, .slice none 0 0, 0, k⟩) y u := by
  rcases hc with rfl | ⟨rfl, rfl⟩
  · exact hx.upd hid
  · have := RA_v hx
    subst this
    exact ⟨rfl, fun _ => by rw [upd_same]⟩

theorem Weak.nilrow (k : Nat) {st st' : St} (hnx : st.nx + 1 ≤ st'.nx) (hS : ∀ i, coeNS st.nx (st.sl i) (st'.sl i)) (hj : st'.hp st.nx = some (.row k [])) (hH : ∀ b, b ≠ st.nx → coeNH st.nx (st.hp b) (st'.hp b)) : Weak gl st st' := by
  intro E ρ imm a w _ h
  refine ⟨upd ρ st.nx ⟨0, .slice none 0 0, 0, k⟩, imm, ?_⟩
  have hidA : ∀ {x : AV}, okC (fun b => b < st.nx) st.hp x → x.id? ≠ some st.nx := fun hx e => Nat.lt_irrefl _ (hx _ e).1
  have hold : ∀ b he', b ≠ st.nx → st'.hp b = some he' → ∃ he, st.hp b = some he ∧ (he' = he ∨ ∃ cs cs', he = .box cs ∧ he' = .box cs' ∧ F2 (coeN st.nx) cs cs') := by
    intro b he' hb hh
    have := hH b hb
    rw [hh] at this
    cases hx : st.hp b with
    | none => rw [hx] at this; cases he' <;> simp [coeNH] at this
    | some he =>
      rw [hx] at this
      cases he' with
      | box cs => cases he with
        | box cs' => exact ⟨_, rfl, .inr ⟨_, _, rfl, rfl, this⟩⟩
        | row => simp [coeNH] at this
        | keys => simp [coeNH] at this
      | row k' xs => exact ⟨he, rfl, .inl (by cases he <;> simp [coeNH] at this ⊢; simp [this])⟩
      | keys ds ks => exact ⟨he, rfl, .inl (by cases he <;> simp [coeNH] at this ⊢; simp [this])⟩
  have hokC : ∀ x y, coeN st.nx x y → okC (fun b => b < st.nx) st.hp x → okC (fun b => b < st'.nx) st'.hp y := by
    rintro x y (rfl | ⟨rfl, rfl⟩) hx
    · intro b hb
      have hbn : b ≠ st.nx := fun e => hidA hx (e ▸ hb)
      refine ⟨Nat.lt_of_lt_of_le (hx b hb).1 (by omega), fun k xs hk => (hx b hb).2 k xs ?_⟩
      obtain ⟨he, h1, h2⟩ := hold b _ hbn hk
      rcases h2 with h2 | ⟨cs, cs', _, h3, _⟩
      · rw [h1, h2]
      · cases h3
    · intro b hb
      simp only [AV.id?, Option.some.injEq] at hb
      subst hb
      refine ⟨by omega, fun k' xs hk => ?_⟩
      rw [hj] at hk
      cases hk
      exact Nat.zero_le _
  have hwf := h.wf
  have hRC : ∀ (cs cs' : List AV) (us : List Value), (∀ x ∈ cs, okC (fun b => b < st.nx) st.hp x) → F2 (coeN st.nx) cs cs' → RC w imm ρ cs us → RC w imm (upd ρ st.nx ⟨0, .slice none 0 0, 0, k⟩) cs' us :=
    fun cs cs' us hok h1 h2 => F2.comp (fun x hx y z hxy hxz => hxy.RA (hidA (hok x hx)) hxz) h1 h2
  have huse : ∀ b he', st'.hp b = some he' → he'.uses (upd ρ st.nx ⟨0, .slice none 0 0, 0, k⟩ b) → b ≠ st.nx ∧ ∃ he, st.hp b = some he ∧ he.uses (ρ b) := by
    intro b he' hb hu
    by_cases hbn : b = st.nx
    · subst hbn
      rw [hj] at hb; cases hb
      rw [upd_same] at hu
      exact absurd rfl hu
    · refine ⟨hbn, ?_⟩
      obtain ⟨he, h1, h2⟩ := hold b _ hbn hb
      rw [upd_ne _ _ hbn] at hu
      refine ⟨he, h1, ?_⟩
      rcases h2 with rfl | ⟨cs, cs', rfl, rfl, _⟩
      · exact hu
      · trivial
  have hused' : ∀ x, usedBy st'.hp (upd ρ st.nx ⟨0, .slice none 0 0, 0, k⟩) x → usedBy st.hp ρ x := by
    rintro x ⟨b, he', hb, hu, rfl⟩
    obtain ⟨hbn, he, h1, h2⟩ := huse b he' hb hu
    exact ⟨b, he, h1, h2, by rw [upd_ne _ _ hbn]⟩
  refine { wf := ⟨fun i x hx => ?_, fun b he hb => ?_⟩, slots := fun i => ?_, nt := h.nt, defs := ?_, heap := fun b he hb => ?_, used := fun b he hb hu => ?_, inj := fun b b' he he' hb hb' hu hu' hne => ?_, immlt := h.immlt, imm0 := h.imm0, immF := h.immF, ext := h.ext, glob := h.glob, pin := fun b c hc => ?_, pinr := fun c hc => ?_, jinv := E.jst _ _ _ _ _ _ (fun _ => False) h.jinv (fun x hx => by obtain ⟨b, he, hb, hu, rfl⟩ := hx; exact ⟨(h.used b he hb hu).1, (h.used b he hb hu).2.1⟩) (.refl _ _) (fun _ h => h.elim) (fun _ h => h) (fun x hx => ⟨h.immlt x hx, .inl hx⟩) (fun x hx => .inl (hused' x hx)) }
  · have hs := hS i
    cases hsi : st.sl i with
    | top => rw [hsi] at hs; cases hsj : st'.sl i <;> rw [hsj] at hs hx <;> simp [coeNS, SV.cells] at hs hx
    | c ag cs =>
      rw [hsi] at hs
      cases hsj : st'.sl i with
      | c ag' cs' =>
        rw [hsj] at hs hx
        obtain ⟨c, hc, hcx⟩ := F2.memr hs.2 x hx
        exact hokC c x hcx (hwf.ids i c (by rw [hsi]; exact hc))
      | _ => rw [hsj] at hs; exact hs.elim
    | tup xs =>
      rw [hsi] at hs
      cases hsj : st'.sl i with
      | tup ys =>
        rw [hsj] at hs hx
        have hs : xs = ys := hs
        subst hs
        exact hokC x x (.inl rfl) (hwf.ids i x (by rw [hsi]; exact hx))
      | _ => rw [hsj] at hs; exact hs.elim
  · by_cases hbn : b = st.nx
    · subst hbn
      rw [hj] at hb; cases hb
      exact ⟨by omega, by simp [HE.cells]⟩
    · obtain ⟨he0, h1, h2⟩ := hold b _ hbn hb
      refine ⟨Nat.lt_of_lt_of_le (hwf.idh b he0 h1).1 (by omega), fun x hx => ?_⟩
      rcases h2 with rfl | ⟨cs, cs', rfl, rfl, h3⟩
      · exact hokC x x (.inl rfl) ((hwf.idh b _ h1).2 x hx)
      · obtain ⟨c, hc, hcx⟩ := F2.memr h3 x hx
        exact hokC c x hcx ((hwf.idh b _ h1).2 c hc)
  · have hs := hS i
    have hr := h.slots i
    cases hsi : st.sl i with
    | top => rw [hsi] at hs; cases hsj : st'.sl i <;> rw [hsj] at hs <;> first | trivial | exact hs.elim
    | c ag cs =>
      rw [hsi] at hs hr
      cases hsj : st'.sl i with
      | c ag' cs' =>
        rw [hsj] at hs
        obtain ⟨rfl, h3⟩ := hs
        obtain ⟨us, g1, g2⟩ := hr
        exact ⟨us, hRC cs cs' us (fun x hx => hwf.ids i x (by rw [hsi]; exact hx)) h3 g1, g2⟩
      | _ => rw [hsj] at hs; exact hs.elim
    | tup xs =>
      rw [hsi] at hs hr
      cases hsj : st'.sl i with
      | tup ys =>
        rw [hsj] at hs
        have hs : xs = ys := hs
        subst hs
        refine hr.cellwise fun x hx v hra => hra.upd (hidA (hwf.ids i x (by rw [hsi]; exact hx)))
      | _ => rw [hsj] at hs; exact hs.elim
  · obtain ⟨ds, e1, e2, e3⟩ := h.defs
    exact ⟨ds, e1, e2, fun x hx => ⟨(e3 x hx).1, (e3 x hx).2.1, (e3 x hx).2.2.1, fun hu => (e3 x hx).2.2.2 (hused' x hu)⟩⟩
  · by_cases hbn : b = st.nx
    · subst hbn
      rw [hj] at hb; cases hb
      rw [upd_same]
      exact ⟨rfl, rfl, by simp, .inl ⟨rfl, rfl⟩⟩
    · obtain ⟨he0, h1, h2⟩ := hold b _ hbn hb
      rw [upd_ne _ _ hbn]
      have hr := h.heap b he0 h1
      rcases h2 with rfl | ⟨cs, cs', rfl, rfl, h3⟩
      · cases he with
        | box cs =>
          obtain ⟨us, el, g1, g2⟩ := hr
          exact ⟨us, el, g1, g2.upd fun x hx => hidA ((hwf.idh b _ h1).2 x hx)⟩
        | row k' xs => exact hr
        | keys ds ks => exact hr
      · obtain ⟨us, el, g1, g2⟩ := hr
        exact ⟨us, el, g1, hRC cs cs' us (fun x hx => (hwf.idh b _ h1).2 x hx) h3 g2⟩
  · obtain ⟨hbn, he0, h1, h2⟩ := huse b he hb hu
    rw [upd_ne _ _ hbn]
    exact h.used b he0 h1 h2
  · obtain ⟨hbn, he0, h1, h2⟩ := huse b he hb hu
    obtain ⟨hbn', he0', h1', h2'⟩ := huse b' he' hb' hu'
    rw [upd_ne _ _ hbn, upd_ne _ _ hbn']
    exact h.inj b b' he0 he0' h1 h1' h2 h2' hne
  · obtain ⟨h0, h1, h2, h3⟩ := h.pin b c hc
    have hbn : b ≠ st.nx := Nat.ne_of_lt h1
    refine ⟨h0, Nat.lt_of_lt_of_le h1 (by omega), by rw [upd_ne _ _ hbn]; exact h2, fun k' xs hk => ?_⟩
    obtain ⟨he0, g1, g2⟩ := hold b _ hbn hk
    rcases g2 with g2 | ⟨cs, cs', _, g3, _⟩
    · exact h3 k' xs (by rw [g1, g2])
    · cases g3
  · obtain ⟨h0, h1⟩ := h.pinr c hc
    have h0n : (0 : Nat) ≠ st.nx := Nat.ne_of_lt h0
    refine ⟨Nat.lt_of_lt_of_le h0 (by omega), fun k' xs hk => ?_⟩
    rw [upd_ne _ _ h0n]
    obtain ⟨he0, g1, g2⟩ := hold 0 _ h0n hk
    rcases g2 with g2 | ⟨cs, cs', _, g3, _⟩
    · exact h1 k' xs (by rw [g1, g2])
    · cases g3

/-! ### a function -/
/-- a result, as it stands at the end -/
def resOne (P : Program) (st : St) : ResultVar → Option (Bool × List AV)
  | .tmp t => match st.sl t with
    | .c ag cs => some (ag, cs)
    | _ => none
  | .cell t ty => match st.sl t with
    | .c false [.ptr b off] => match st.hp b with
      | some (.box cs) => match agOf P ty, szOf P ty with
        | some ag, some n => if off + (if ag then n else 1) ≤ cs.length then some (ag, (cs.drop off).take (if ag then n else 1)) else none
        | _, _ => none
      | _ => none
    | _ => none
def resMany (P : Program) (st : St) : List ResultVar → Option (List (Bool × List AV))
  | [] => some []
  | r :: rs => match resOne P st r with
    | some x => match resMany P st rs with
      | some xs => some (x :: xs)
      | none => none
    | none => none
def resSV : List (Bool × List AV) → SV
  | [p] => .c p.1 p.2
  | xs => .tup xs

def resRead (tm : Array Value) : ResultVar → Sem Value
  | .tmp t => pure (tm.getD t undef)
  | .cell a t => do loadVar t (← asAddr (tm.getD a undef))
theorem results_eq (fn : Func) (tm : Array Value) : results fn tm = (do
  let vs ← fn.results.mapM (resRead tm)
  pure (if h : vs.size = 1 then vs[0] else .tuple vs)) := by
  unfold results
  congr 1
theorem resOne_run {A : Nat → Prop} {st : St} {ρ : Nat → Cn} {imm : Nat → Prop} {a : Act} {w : World} (h : Real E A st.sl st.hp ρ imm a w) {r : ResultVar} {x : Bool × List AV} (hr : resOne P st r = some x) :
    ∃ v, (resRead a.tmps r).run P w = .ok v w ∧ RV w imm ρ x.1 x.2 v := by
  cases r with
  | tmp t =>
    simp only [resOne] at hr
    split at hr
    · rename_i ag cs he
      cases hr
      have := h.slots t
      rw [he] at this
      exact ⟨_, rfl, this⟩
    · cases hr
  | cell t ty =>
    simp only [resOne] at hr
    split at hr
    · rename_i b off he
      split at hr
      · rename_i cs hb
        split at hr
        · rename_i ag n hag hn
          by_cases hle : off + (if ag then n else 1) ≤ cs.length
          · rw [if_pos hle] at hr
            cases hr
            have hs := h.slots t
            rw [he] at hs
            have hv : a.tmps.getD t undef = .pointer (some ⟨(ρ b).blk, off, none⟩) := hs.c1
            obtain ⟨us, el, g1, g2⟩ := h.heap b _ hb
            have hlen : us.length = cs.length := g2.length.symm
            have hl : ((us.drop off).take (if ag then n else 1)).length = if ag then n else 1 := by
              simp only [List.length_take, List.length_drop, hlen]; omega
            refine ⟨_, ?_, RS.of_cells ag ((g2.drop off).take (if ag then n else 1)) (fun hf => by rw [hl, hf]; rfl)⟩
            show Sem.run P (do loadVar ty (← asAddr (a.tmps.getD t undef))) w = _
            rw [hv]
            simp only [asAddr, Sem.run_bind, Sem.run_pure, Result.andThen_ok]
            refine run_loadVar P hag hn hl fun j hj => ?_
            rw [hl] at hj
            rw [cellsAt g1, List.getElem?_take_of_lt hj, List.getElem?_drop]
          · rw [if_neg hle] at hr; cases hr
        · cases hr
      · cases hr
    · cases hr

theorem results_run {A : Nat → Prop} {st : St} {ρ : Nat → Cn} {imm : Nat → Prop} {a : Act} {w : World} (h : Real E A st.sl st.hp ρ imm a w) {fn : Func} {xs : List (Bool × List AV)} (hr : resMany P st fn.results.toList = some xs) :
    ∃ v, (results fn a.tmps).run P w = .ok v w ∧ RS w imm ρ (resSV xs) v := by
  have key : ∀ (rs : List ResultVar) (xs : List (Bool × List AV)), resMany P st rs = some xs → ∃ vs : List Value, (rs.mapM (resRead a.tmps)).run P w = .ok vs w ∧ F2 (fun p u => RV w imm ρ p.1 p.2 u) xs vs := by
    intro rs
    induction rs with
    | nil => intro xs hx; simp only [resMany, Option.some.injEq] at hx; subst hx; exact ⟨[], rfl, trivial⟩
    | cons r rs ih =>
      intro xs hx
      simp only [resMany] at hx
      split at hx
      · rename_i x hx1
        split at hx
        · rename_i ys hx2
          cases hx
          obtain ⟨v, hv, hv2⟩ := resOne_run h hx1
          obtain ⟨vs, hvs, hvs2⟩ := ih ys hx2
          refine ⟨v :: vs, ?_, hv2, hvs2⟩
          simp only [List.mapM_cons, Sem.run_bind, hv, hvs, Result.andThen_ok, Sem.run_pure]
        · cases hx
      · cases hx
  obtain ⟨vs, h1, h2⟩ := key _ _ hr
  refine ⟨if h : vs.toArray.size = 1 then vs.toArray[0] else .tuple vs.toArray, ?_, ?_⟩
  · rw [results_eq, ← Array.toArray_toList (xs := fn.results), List.mapM_toArray, Sem.run_bind, Sem.run_map, h1]
    rfl
  · match xs, vs, h2 with
    | [], [], _ => exact ⟨[], rfl, trivial⟩
    | [p], [v], h2 => exact h2.1
    | p :: q :: xs, v :: u :: vs, h2 => exact ⟨v :: u :: vs, by simp, h2⟩
end Go.Proofs.YtlbafapmhjfobaaGreatDoor
namespace Go.Proofs.YtlbafapmhjfobaaGreatDoor
variable {P : Program} {gl : Nat → Option (List AV)}

def st0 (hin : Option HE) (args : List (Bool × List AV)) : St :=
  ⟨fun i => match args[i]? with | some p => .c p.1 p.2 | none => .top, fun b => match b with | 0 => hin | _ + 1 => none, 1⟩
/-- behind a function: it hands back res, everything frozen -/
def retPure (P : Program) (rs : List ResultVar) (res : SV) : Ex → St → Prop
  | .exit _, _ => False
  | _, st => match resMany P st rs with
    | some xs => coeFS st.hp (fun _ => True) (resSV xs) res
    | none => False
/-- behind a function: it hands back res, and one block is still open -/
def retFresh (P : Program) (rs : List ResultVar) (res : SV) (he : HE) : Ex → St → Prop
  | .exit _, _ => False
  | _, st => match resMany P st rs with
    | some xs => ∃ b, st.hp b = some he ∧ coeFS st.hp (fun x => x ≠ b) (resSV xs) (res.ren b)
    | none => False

theorem RS.back {w w' : World} {imm imm' : Nat → Prop} {ρ ρ' : Nat → Cn} {b : Nat} {s : SV} {u : Value} (hc : ∀ x ∈ s.cells, ∀ v, RA w imm ρ (ren b x) v → RA w' imm' ρ' x v) (h : RS w imm ρ (s.ren b) u) : RS w' imm' ρ' s u := by
  have hrc : ∀ (cs : List AV) (us : List Value), (∀ x ∈ cs, ∀ v, RA w imm ρ (ren b x) v → RA w' imm' ρ' x v) → RC w imm ρ (cs.map (ren b)) us → RC w' imm' ρ' cs us := by
    intro cs
    induction cs with
    | nil => intro us _ hr; cases us <;> exact hr
    | cons c cs ih =>
      intro us hcs hr
      cases us with
      | nil => exact hr.elim
      | cons u us => exact ⟨hcs c (by simp) u hr.1, ih us (fun x hx => hcs x (by simp [hx])) hr.2⟩
  cases s with
  | top => trivial
  | c ag cs =>
    obtain ⟨us, h1, h2⟩ := h
    exact ⟨us, hrc cs us hc h1, h2⟩
  | tup xs =>
    obtain ⟨us, h1, h2⟩ := h
    refine ⟨us, h1, ?_⟩
    have : ∀ (xs : List (Bool × List AV)) (us : List Value), (∀ p ∈ xs, ∀ x ∈ p.2, ∀ v, RA w imm ρ (ren b x) v → RA w' imm' ρ' x v) →
        F2 (fun p u => RV w imm ρ p.1 p.2 u) (xs.map fun p => (p.1, p.2.map (ren b))) us → F2 (fun p u => RV w' imm' ρ' p.1 p.2 u) xs us := by
      intro xs
      induction xs with
      | nil => intro us _ hr; cases us <;> exact hr
      | cons p xs ih =>
        intro us hcs hr
        cases us with
        | nil => exact hr.elim
        | cons u us =>
          obtain ⟨⟨vs, g1, g2⟩, hr2⟩ := hr
          exact ⟨⟨vs, hrc p.2 vs (hcs p (by simp)) g1, g2⟩, ih us (fun q hq => hcs q (by simp [hq])) hr2⟩
    exact this xs us (fun p hp x hx v => hc x (by simp only [SV.cells, List.mem_flatMap]; exact ⟨p, hp, hx⟩) v) h2

/-- what is handed over, as the body's walk begins -/
theorem real0 (pr : Option Cn) (pn : Nat → Option Cn) {f : Nat} {fn : Func} {hin : Option HE} {args : List (Bool × List AV)} {w : World} {imm : Nat → Prop} {c : Cn} {us : List Value} (hnt : args.length ≤ fn.ntmps)
    (hok : ∀ p ∈ args, ∀ x ∈ p.2, okC (fun b => b < 1) (st0 hin args).hp x) (hih : ∀ he, hin = some he → ∀ x ∈ he.cells, okC (fun b => b < 1) (st0 hin args).hp x)
    (himm : ∀ x, imm x → x < w.heap.size) (hgl : GInv gl w imm) (hh : ∀ he, hin = some he → RH w imm (fun _ => c) c he ∧ (he.uses c → c.blk < w.heap.size ∧ ¬ imm c.blk))
    (hargs : F2 (fun p u => RV w imm (fun _ => c) p.1 p.2 u) args us) (hpn : ∀ b d, pn b = some d → b = 0 ∧ d = c ∧ ∀ k xs, hin ≠ some (.row k xs)) (hpr : ∀ d, pr = some d → d = c) :
    Real ⟨fn.ntmps, w, fun x => ∃ he, hin = some he ∧ he.uses c ∧ x = c.blk, imm, gl, [], false, pr, pn, fun _ _ _ => True, trueJ_stable⟩ (fun b => b < (st0 hin args).nx) (st0 hin args).sl (st0 hin args).hp (fun _ => c) imm
      { tmps := us.toArray ++ Array.replicate (fn.ntmps - us.toArray.size) undef, defers := [] } w := by
  have hl := hargs.length
  have hb0 : ∀ b he, (st0 hin args).hp b = some he → b = 0 ∧ hin = some he := by
    intro b he hb
    cases b with
    | zero => exact ⟨rfl, hb⟩
    | succ b => cases hb
  refine { wf := ⟨fun i x hx => ?_, fun b he hb => ?_⟩, slots := fun i => ?_, nt := ?_, defs := ⟨[], rfl, ⟨List.nodup_nil, fun _ => rfl⟩, by simp⟩, heap := fun b he hb => ?_, used := fun b he hb hu => ?_, inj := fun b b' he he' hb hb' _ _ hne => ?_, immlt := himm, imm0 := fun _ h => h, immF := fun _ h => .inl h, ext := .refl _ _, glob := hgl, pin := fun b d hd => ⟨by rw [(hpn b d hd).1]; omega, by rw [(hpn b d hd).1]; exact Nat.zero_lt_one, (hpn b d hd).2.1.symm, by rw [(hpn b d hd).1]; exact (hpn b d hd).2.2⟩, pinr := fun d hd => ⟨Nat.zero_lt_one, fun k xs hk => by
    have := hpr d hd
    subst this
    have hh1 := (hh _ hk).1
    exact ⟨by rw [hh1.1]; exact Nat.le_refl _, fun _ => rfl⟩⟩, jinv := trivial }
  · simp only [st0] at hx
    split at hx
    · rename_i p hp
      exact hok p (List.mem_of_getElem? hp) x hx
    · simp [SV.cells] at hx
  · obtain ⟨rfl, he0⟩ := hb0 b he hb
    exact ⟨Nat.zero_lt_one, hih he he0⟩
  · simp only [st0]
    split
    · rename_i p hp
      obtain ⟨u, hu, hr⟩ := hargs.ex hp
      have hi : i < us.length := (List.getElem?_eq_some_iff.1 hu).1
      have : (us.toArray ++ Array.replicate (fn.ntmps - us.toArray.size) undef).getD i undef = u := by
        rw [Array.getD_eq_getD_getElem?, Array.getElem?_append_left (by simpa using hi)]
        simp [hu]
      rw [this]
      exact hr
    · trivial
  · simp only [Array.size_append, List.size_toArray, Array.size_replicate]
    omega
  · obtain ⟨rfl, he0⟩ := hb0 b he hb
    exact (hh he he0).1
  · obtain ⟨rfl, he0⟩ := hb0 b he hb
    exact ⟨((hh he he0).2 hu).1, ((hh he he0).2 hu).2, .inr ⟨he, he0, hu, rfl⟩⟩
  · exact absurd ((hb0 b he hb).1.trans (hb0 b' he' hb').1.symm) hne

/-- a function's way out, the marks of its ranges and all -/
theorem Real.leave {E : Env} {fn : Func} {R : Ending → World → Prop} (hd : E.defs = []) (hq : E.q = false) (hJ : ∀ i z w, E.J i z w) : ∀ (ds : List Nat) {A : Nat → Prop} {sl : Nat → SV} {hp : Nat → Option HE} {ρ : Nat → Cn} {imm : Nat → Prop} {a : Act} {w : World},
    Real E A sl hp ρ imm a w → a.defers = ds.map mark → (∀ w', Real E A sl hp ρ imm { a with defers := [] } w' → ∃ v, (results fn a.tmps).run P w' = .ok v w' ∧ R (.returned v) w') →
    LeavesInM Fence.wide 0 P fn a.tmps R a.defers .returning w
  | [], A, sl, hp, ρ, imm, a, w, h, he, hk => by
    rw [he]
    have hh : ({ a with defers := [] } : Act) = a := by cases a; simp_all
    obtain ⟨v, h1, h2⟩ := hk w (by rw [hh]; exact h)
    exact ⟨v, h1, h2⟩
  | D :: ds, A, sl, hp, ρ, imm, a, w, h, he, hk => by
    rw [he]
    obtain ⟨ds', e1, e2, e3⟩ := h.defs
    rw [he, hd, List.append_nil] at e1
    have e1 := mark_inj e1
    subst e1
    obtain ⟨g1, g2, g3, g4⟩ := e3 D (by simp)
    have hnd := (List.nodup_cons.1 e2.1)
    have h' : Real E A sl hp ρ imm { a with defers := ds.map mark } (w.putObj D (.deferred none)) := by
      refine h.later (ext_setBlk (b := D)) (fun x hx => by subst hx; exact ⟨g3, g4, .inl g2⟩) (fun _ h => h) (fun x hx => ⟨by simpa using h.immlt x hx, fun hu => (h.usedlt hu).2.1 hx, h.immF x hx⟩) rfl ⟨ds, by simp [hd], ⟨hnd.2, fun h => by rw [hq] at h; cases h⟩, fun x hx => ?_⟩ (hJ _ _ _)
      obtain ⟨f1, f2, f3, f4⟩ := e3 x (by simp [hx])
      exact ⟨(World.putObj_heap_other (fun (e : x = D) => hnd.1 (e ▸ hx))).trans f1, f2, f3, f4⟩
    refine ⟨by simp, .inl ⟨D, _, rfl, run_takeDeferred g1, ?_⟩⟩
    exact Real.leave hd hq hJ ds h' rfl hk

theorem spec_pure {f : Nat} {fn : Func} {body : Code} {ac : ACode} {fz : List Nat} (hin : Option HE) {args : List (Bool × List AV)} {res : SV} (hf : P.funcs[f]? = some fn) (hb : fn.body = some body) (hen : EntersP P f) (hfol : P.follows .mixedOrders = true)
    (hc : comp P fn.ntmps fz body = some ac) (hnt : args.length ≤ fn.ntmps) (hok : ∀ p ∈ args, ∀ x ∈ p.2, okC (fun b => b < 1) (st0 hin args).hp x) (hih : ∀ he, hin = some he → ∀ x ∈ he.cells, okC (fun b => b < 1) (st0 hin args).hp x)
    (hid : idFree res.cells) (hW : W P gl ac (st0 hin args) (retPure P fn.results.toList res)) : Spec P gl f hin args res none := by
  refine ⟨hen, fun w imm c us himm hgl hh hargs => ?_⟩
  have hreal := real0 none (fun _ => none) (f := f) hnt hok hih himm hgl hh hargs (fun _ _ h => by cases h) (fun _ h => by cases h)
  refine callsIn_of_wp_marks hf hb trivial (wpIn_mono (W_sound hfol body _ _ 0 ac _ _ _ _ _ _ rfl wideF_wide (.inr ⟨rfl, fun _ _ _ => trivial, rfl, rfl⟩) hc hreal hW) fun e a' w' hp => ?_)
  have fin : ∀ (w' : World) (st : St) (ρ : Nat → Cn) (imm' : Nat → Prop), (match resMany P st fn.results.toList with | some xs => coeFS st.hp (fun _ => True) (resSV xs) res | none => False) →
      Real ⟨fn.ntmps, w, fun x => ∃ he, hin = some he ∧ he.uses c ∧ x = c.blk, imm, gl, [], false, none, fun _ => none, fun _ _ _ => True, trueJ_stable⟩ (fun b => b < st.nx) st.sl st.hp ρ imm' { a' with defers := [] } w' →
      ∃ v, (results fn a'.tmps).run P w' = .ok v w' ∧ (∃ v' imm' c', Ending.returned v = .returned v' ∧ RS w' imm' (fun _ => c') res v' ∧ (∀ x, imm x → imm' x) ∧
        (∀ x, imm' x → x < w'.heap.size ∧ (imm x ∨ w.heap.size ≤ x ∨ ((none : Option HE) = none ∧ ∃ he, hin = some he ∧ he.uses c ∧ x = c.blk))) ∧
        (∀ he', (none : Option HE) = some he' → RH w' imm' (fun _ => c') c' he' ∧ (∀ he, hin = some he → (he'.uses c' → he.uses c ∧ c'.blk = c.blk) ∧ (sameKind he he' → c' = c)) ∧ (hin = none → he'.uses c' → w.heap.size ≤ c'.blk) ∧ (he'.uses c' → c'.blk < w'.heap.size ∧ ¬ imm' c'.blk)) ∧
        Ext (fun x => ∃ he, hin = some he ∧ he.uses c ∧ x = c.blk) w w') := by
    intro w' st ρ imm' hm hr
    split at hm
    · rename_i xs hxs
      obtain ⟨v, hv, hv2⟩ := results_run hr hxs
      have hfr := hr.freeze (fun _ => True) (A' := fun b => b < st.nx) (sl' := fun _ => .top) (hp' := fun _ => none) (fun _ h => h) (fun i => by cases st.sl i <;> trivial) (fun b => trivial)
      refine ⟨v, hv, v, _, c, rfl, (hm.RS hr hv2).cellwise (fun x hx u hra => hra.idfree (hid x hx)), fun x hx => hfr.imm0 x hx, fun x hx => ⟨hfr.immlt x hx, ?_⟩, fun he' h => by (cases h), hr.ext⟩
      rcases hfr.immF x hx with h1 | h1 | h1
      · exact .inl h1
      · exact .inr (.inl h1)
      · exact .inr (.inr ⟨rfl, h1⟩)
    · exact hm.elim
  cases e with
  | normal => obtain ⟨st, ρ, imm', hk, hr⟩ := hp; obtain ⟨ds, he, _⟩ := hr.defs; exact Real.leave rfl rfl (fun _ _ _ => trivial) ds hr (by simpa using he) fun w'' h'' => fin w'' st ρ imm' hk h''
  | ret => obtain ⟨st, ρ, imm', hk, hr⟩ := hp; obtain ⟨ds, he, _⟩ := hr.defs; exact Real.leave rfl rfl (fun _ _ _ => trivial) ds hr (by simpa using he) fun w'' h'' => fin w'' st ρ imm' hk h''
  | exit id => obtain ⟨st, ρ, imm', hk, hr⟩ := hp; exact hk.elim
  | goto => exact hp.elim
  | panic => exact hp.elim
  | outgrown => exact hp.elim

theorem spec_fresh {f : Nat} {fn : Func} {body : Code} {ac : ACode} {fz : List Nat} {args : List (Bool × List AV)} {res : SV} {he : HE} (hf : P.funcs[f]? = some fn) (hb : fn.body = some body) (hen : EntersP P f) (hfol : P.follows .mixedOrders = true)
    (hc : comp P fn.ntmps fz body = some ac) (hnt : args.length ≤ fn.ntmps) (hok : ∀ p ∈ args, idFree p.2)
    (hid : idFree he.cells) (hidr : ∀ x ∈ res.cells, x.id? = none ∨ x.id? = some 0) (hW : W P gl ac (st0 none args) (retFresh P fn.results.toList res he)) : Spec P gl f none args res (some he) := by
  refine ⟨hen, fun w imm c us himm hgl hh hargs => ?_⟩
  have hreal := real0 none (fun _ => none) (f := f) hnt (fun p hp x hx => .none_id (hok p hp x hx)) (fun he h => by cases h) himm hgl hh hargs (fun _ _ h => by cases h) (fun _ h => by cases h)
  refine callsIn_of_wp_marks hf hb trivial (wpIn_mono (W_sound hfol body _ _ 0 ac _ _ _ _ _ _ rfl wideF_wide (.inr ⟨rfl, fun _ _ _ => trivial, rfl, rfl⟩) hc hreal hW) fun e a' w' hp => ?_)
  have fin : ∀ (w' : World) (st : St) (ρ : Nat → Cn) (imm' : Nat → Prop), (match resMany P st fn.results.toList with | some xs => ∃ b, st.hp b = some he ∧ coeFS st.hp (fun x => x ≠ b) (resSV xs) (res.ren b) | none => False) →
      Real ⟨fn.ntmps, w, fun x => ∃ he, (none : Option HE) = some he ∧ he.uses c ∧ x = c.blk, imm, gl, [], false, none, fun _ => none, fun _ _ _ => True, trueJ_stable⟩ (fun b => b < st.nx) st.sl st.hp ρ imm' { a' with defers := [] } w' →
      ∃ v, (results fn a'.tmps).run P w' = .ok v w' ∧ (∃ v' imm' c', Ending.returned v = .returned v' ∧ RS w' imm' (fun _ => c') res v' ∧ (∀ x, imm x → imm' x) ∧
        (∀ x, imm' x → x < w'.heap.size ∧ (imm x ∨ w.heap.size ≤ x ∨ ((some he : Option HE) = none ∧ ∃ he, (none : Option HE) = some he ∧ he.uses c ∧ x = c.blk))) ∧
        (∀ he', (some he : Option HE) = some he' → RH w' imm' (fun _ => c') c' he' ∧ (∀ he, (none : Option HE) = some he → (he'.uses c' → he.uses c ∧ c'.blk = c.blk) ∧ (sameKind he he' → c' = c)) ∧ ((none : Option HE) = none → he'.uses c' → w.heap.size ≤ c'.blk) ∧ (he'.uses c' → c'.blk < w'.heap.size ∧ ¬ imm' c'.blk)) ∧
        Ext (fun x => ∃ he, (none : Option HE) = some he ∧ he.uses c ∧ x = c.blk) w w') := by
    intro w' st ρ imm' hm hr
    split at hm
    · rename_i xs hxs
      obtain ⟨b, hb', hcoe⟩ := hm
      obtain ⟨v, hv, hv2⟩ := results_run hr hxs
      have hfr := hr.freeze (fun x => x ≠ b) (A' := fun b => b < st.nx) (sl' := fun _ => .top) (hp' := fun x => if x = b then some he else none) (fun _ h => h) (fun i => by cases st.sl i <;> trivial) (fun x => by
        by_cases hx : x = b
        · subst hx
          simp only [if_true]
          cases he with
          | box cs => exact ⟨fun h => h rfl, cs, hb', F2.of_get rfl (fun j x u h1 h2 => .inl (by rw [h1] at h2; cases h2; rfl))⟩
          | row k xs => exact ⟨fun h => h rfl, hb'⟩
          | keys ds ks => exact ⟨fun h => h rfl, hb'⟩
        · simp only [hx, if_false]; trivial)
      have hpb : (fun x => if x = b then some he else none : Nat → Option HE) b = some he := by simp
      refine ⟨v, hv, v, _, ρ b, rfl, ?_, fun x hx => hfr.imm0 x hx, fun x hx => ⟨hfr.immlt x hx, ?_⟩, ?_, hr.ext⟩
      · refine (hcoe.RS hr hv2).back fun x hx u hra => ?_
        rcases hidr x hx with h1 | h1
        · have : ren b x = x := by cases x <;> simp_all [AV.id?, ren]
          rw [this] at hra
          exact hra.idfree h1
        · cases x <;> simp [AV.id?] at h1 <;> exact hra
      · rcases hfr.immF x hx with h1 | h1 | ⟨_, h1, _⟩
        · exact .inl h1
        · exact .inr (.inl h1)
        · cases h1
      · intro he' hhe
        cases hhe
        have hRH := hfr.heap b he hpb
        refine ⟨?_, (fun _ h => by cases h), fun _ hu => ?_, fun hu => ?_⟩
        · cases he with
          | box cs =>
            obtain ⟨us, el, g1, g2⟩ := hRH
            exact ⟨us, el, g1, g2.idfree hid⟩
          | row k xs => exact hRH
          | keys ds ks => exact hRH
        · rcases (hfr.used b he hpb hu).2.2 with h1 | ⟨_, h1, _⟩
          · exact h1
          · cases h1
        · exact ⟨(hfr.used b he hpb hu).1, (hfr.used b he hpb hu).2.1⟩
    · exact hm.elim
  cases e with
  | normal => obtain ⟨st, ρ, imm', hk, hr⟩ := hp; obtain ⟨ds, he, _⟩ := hr.defs; exact Real.leave rfl rfl (fun _ _ _ => trivial) ds hr (by simpa using he) fun w'' h'' => fin w'' st ρ imm' hk h''
  | ret => obtain ⟨st, ρ, imm', hk, hr⟩ := hp; obtain ⟨ds, he, _⟩ := hr.defs; exact Real.leave rfl rfl (fun _ _ _ => trivial) ds hr (by simpa using he) fun w'' h'' => fin w'' st ρ imm' hk h''
  | exit id => obtain ⟨st, ρ, imm', hk, hr⟩ := hp; exact hk.elim
  | goto => exact hp.elim
  | panic => exact hp.elim
  | outgrown => exact hp.elim

theorem spec_pure' {f : Nat} {fn : Func} {ac : ACode} {fz : List Nat} {hin : Option HE} {args : List (Bool × List AV)} {res : SV} {rs : List ResultVar} {nt : Nat} (hc : fn.body.bind (comp P fn.ntmps fz) = some ac) (hf : P.funcs[f]? = some fn)
    (hen : EntersP P f) (hfol : P.follows .mixedOrders = true) (hn : fn.ntmps = nt) (hrs : fn.results = rs.toArray)
    (hok : ∀ p ∈ args, ∀ x ∈ p.2, okC (fun b => b < 1) (st0 hin args).hp x) (hih : ∀ he, hin = some he → ∀ x ∈ he.cells, okC (fun b => b < 1) (st0 hin args).hp x)
    (hle : args.length ≤ nt) (hid : idFree res.cells) (hW : W P gl ac (st0 hin args) (retPure P rs res)) : Spec P gl f hin args res none := by
  obtain ⟨body, hb, hc⟩ := Option.bind_eq_some_iff.1 hc
  exact spec_pure hin hf hb hen hfol hc (by omega) hok hih hid (by rw [hrs]; exact hW)
/-- nothing is handed over to be written -/
theorem spec_plain {f : Nat} {fn : Func} {ac : ACode} {fz : List Nat} {args : List (Bool × List AV)} {res : SV} {rs : List ResultVar} {nt : Nat} (hc : fn.body.bind (comp P fn.ntmps fz) = some ac) (hf : P.funcs[f]? = some fn)
    (hen : EntersP P f) (hfol : P.follows .mixedOrders = true) (hn : fn.ntmps = nt) (hrs : fn.results = rs.toArray)
    (hok : ∀ p ∈ args, idFree p.2) (hle : args.length ≤ nt) (hid : idFree res.cells) (hW : W P gl ac (st0 none args) (retPure P rs res)) : Spec P gl f none args res none :=
  spec_pure' hc hf hen hfol hn hrs (fun p hp x hx => .none_id (hok p hp x hx)) (fun _ h => by cases h) hle hid hW
theorem spec_fresh' {f : Nat} {fn : Func} {ac : ACode} {fz : List Nat} {args : List (Bool × List AV)} {res : SV} {he : HE} {rs : List ResultVar} {nt : Nat} (hc : fn.body.bind (comp P fn.ntmps fz) = some ac) (hf : P.funcs[f]? = some fn)
    (hen : EntersP P f) (hfol : P.follows .mixedOrders = true) (hn : fn.ntmps = nt) (hrs : fn.results = rs.toArray)
    (hok : ∀ p ∈ args, idFree p.2) (hle : args.length ≤ nt) (hid : idFree he.cells) (hidr : ∀ x ∈ res.cells, x.id? = none ∨ x.id? = some 0) (hW : W P gl ac (st0 none args) (retFresh P rs res he)) : Spec P gl f none args res (some he) := by
  obtain ⟨body, hb, hc⟩ := Option.bind_eq_some_iff.1 hc
  exact spec_fresh hf hb hen hfol hc (by omega) hok hid hidr (by rw [hrs]; exact hW)
end Go.Proofs.YtlbafapmhjfobaaGreatDoor
namespace Go.Proofs.YtlbafapmhjfobaaGreatDoor
variable {P : Program} {F : Fence} {n : Nat}

/-- an operation that calls yield: the number of the loop, the argument -/
def yop (gl : Nat → Option (List AV)) (sl : Nat → SV) : AOp → Option (Value × SV)
  | .dyn x [y] => match ev gl sl x with
    | .c false [.v (.func (.yield l) fi ca)] => some (.func (.yield l) fi ca, ev gl sl y)
    | _ => none
  | _ => none
def actY (l : Nat) (items : List (Bool × List AV)) (g : Option Nat) (l' : Value) (y : SV) (X : Option Nat → Bool → Prop) : Prop :=
  match g with
  | some k => l' = .func (.yield l) #[] #[] ∧ (∃ it, items[k]? = some it ∧ y = .c it.1 it.2) ∧ X (some (k + 1)) true ∧ X none false
  | none => False
def evY (P : Program) (gl : Nat → Option (List AV)) (l : Nat) (items : List (Bool × List AV)) : List AOper → Option Nat → (Nat → SV) → (Nat → Option HE) → Nat → (Option Nat → St → Prop) → Prop
  | [], g, sl, hp, nx, Q => Q g ⟨sl, hp, nx⟩
  | o :: r, g, sl, hp, nx, Q => match yop gl sl o.op with
    | some (l', y) =>
      match o.gd with
      | none => actY l items g l' y fun g b => evY P gl l items r g (putS sl o.dst (.c false [.b b])) hp nx Q
      | some (gs, want) => match sl gs with
        | .c false [.v (.bool b)] => (b = want → actY l items g l' y fun g b => evY P gl l items r g (putS sl o.dst (.c false [.b b])) hp nx Q) ∧ (b = (!want) → evY P gl l items r g (putS sl o.dst (.tup [])) hp nx Q)
        | .tup [] => evY P gl l items r g (putS sl o.dst (.tup [])) hp nx Q
        | _ => False
    | none => forceN nx fun j => stepS P gl sl hp j o fun out u => forceS out fun out => forceU u fun u => evY P gl l items r g (putS sl o.dst out) (putH hp u) (j + 1) Q
theorem actY_mono {l : Nat} {l' : Value} {items : List (Bool × List AV)} {g : Option Nat} {y : SV} {X X' : Option Nat → Bool → Prop} (h : ∀ g b, X g b → X' g b) (hh : actY l items g l' y X) : actY l items g l' y X' := by
  cases g with
  | none => exact hh
  | some k => exact ⟨hh.1, hh.2.1, h _ _ hh.2.2.1, h _ _ hh.2.2.2⟩

def thenY (X : Option Nat → St → Prop) (K : Ex → Option Nat → St → Prop) : Ex → Option Nat → St → Prop
  | .normal, g, st => X g st
  | .exit i, g, st => K (.exit i) g st
  | .ret, g, st => K .ret g st
def blockY (id : Nat) (K : Ex → Option Nat → St → Prop) : Ex → Option Nat → St → Prop
  | .normal, g, st => K .normal g st
  | .exit i, g, st => if i = id then K .normal g st else K (.exit i) g st
  | .ret, g, st => K .ret g st
def LoopY (gl : Nat → Option (List AV)) (wb : Option Nat → St → (Ex → Option Nat → St → Prop) → Prop) (g : Option Nat) (st : St) (K : Ex → Option Nat → St → Prop) : Prop :=
  ∀ X : Option Nat → St → Prop, (∀ g s s', Weak gl s s' → wb g s' (thenY X K) → X g s) → X g st
def WY (P : Program) (gl : Nat → Option (List AV)) (l : Nat) (items : List (Bool × List AV)) : ACode → Option Nat → St → (Ex → Option Nat → St → Prop) → Prop
  | .skip, g, st, K => K .normal g st
  | .reg true ops, g, ⟨sl, hp, nx⟩, K => evD P gl (ancs ops) ops 0 [] sl hp nx (K .normal g)
  | .reg false ops, g, ⟨sl, hp, nx⟩, K => evY P gl l items ops g sl hp nx (K .normal)
  | .seq a b, g, st, K => WY P gl l items a g st (thenY (fun g st => WY P gl l items b g st K) K)
  | .cond x a b, g, ⟨sl, hp, nx⟩, K => match ev gl sl x with
    | .c false [.v (.bool t)] => (t = true → WY P gl l items a g ⟨sl, hp, nx⟩ K) ∧ (t = false → WY P gl l items b g ⟨sl, hp, nx⟩ K)
    | _ => False
  | .block id b, g, st, K => WY P gl l items b g st (blockY id K)
  | .loop b, g, st, K => LoopY gl (WY P gl l items b) g st K
  | .exit id, g, st, K => K (.exit id) g st
  | .ret, g, st, K => K .ret g st
  | .scope b, g, st, K => WY P gl l items b g st K
  | .frz _ b, g, st, K => ∃ st', Weak gl st st' ∧ WY P gl l items b g st' K
  | _, _, _, _ => False

theorem thenY_mono {X X' : Option Nat → St → Prop} {K K' : Ex → Option Nat → St → Prop} (h : ∀ g st, X g st → X' g st) (hk : ∀ e g st, K e g st → K' e g st) : ∀ e g st, thenY X K e g st → thenY X' K' e g st := by
  intro e g st hh
  cases e <;> first | exact h _ _ hh | exact hk _ _ _ hh
theorem evY_mono {gl : Nat → Option (List AV)} {l : Nat} {items : List (Bool × List AV)} {Q Q' : Option Nat → St → Prop} (h : ∀ g st, Q g st → Q' g st) : ∀ (ops : List AOper) (g : Option Nat) (sl : Nat → SV) (hp : Nat → Option HE) (nx : Nat), evY P gl l items ops g sl hp nx Q → evY P gl l items ops g sl hp nx Q'
  | [], _, _, _, _, hh => h _ _ hh
  | o :: r, g, sl, hp, nx, hh => by
    rw [evY] at hh ⊢
    split at hh
    · rename_i l' y he
      split at hh
      · exact actY_mono (fun _ _ => evY_mono h r _ _ _ _) hh
      · rename_i gs want hg
        split at hh
        · exact ⟨fun hb => actY_mono (fun _ _ => evY_mono h r _ _ _ _) (hh.1 hb), fun hb => evY_mono h r _ _ _ _ (hh.2 hb)⟩
        · exact evY_mono h r _ _ _ _ hh
        · exact hh.elim
    · rw [forceN_eq] at hh ⊢
      obtain ⟨out, u, h1, h2⟩ := stepS_pt hh
      rw [forceS_eq, forceU_eq] at h1
      exact h2 _ (by rw [forceS_eq, forceU_eq]; exact evY_mono h r _ _ _ _ h1)
theorem WY_mono {gl : Nat → Option (List AV)} {l : Nat} {items : List (Bool × List AV)} : ∀ (c : ACode) (g : Option Nat) (st : St) (K K' : Ex → Option Nat → St → Prop), (∀ e g st, K e g st → K' e g st) → WY P gl l items c g st K → WY P gl l items c g st K' := by
  intro c
  induction c with
  | skip => exact fun g st K K' h hh => h _ _ _ hh
  | reg draw ops =>
    intro g st K K' h hh
    cases draw
    · exact evY_mono (h _) ops _ _ _ _ hh
    · exact evD_mono (h _ _) ops _ _ _ _ _ hh
  | seq a b iha ihb => exact fun g st K K' h hh => iha g st _ _ (thenY_mono (fun g st => ihb g st K K' h) h) hh
  | cond x a b iha ihb =>
    intro g st K K' h hh
    rw [WY] at hh ⊢
    split at hh
    · exact ⟨fun ht => iha g st K K' h (hh.1 ht), fun ht => ihb g st K K' h (hh.2 ht)⟩
    · exact hh.elim
  | block id b ih =>
    intro g st K K' h hh
    refine ih g st _ _ (fun e g st hk => ?_) hh
    cases e with
    | normal => exact h _ _ _ hk
    | exit i =>
      simp only [blockY] at hk ⊢
      split
      · rename_i e; rw [if_pos e] at hk; exact h _ _ _ hk
      · rename_i e; rw [if_neg e] at hk; exact h _ _ _ hk
    | ret => exact h _ _ _ hk
  | loop b ih => exact fun g st K K' h hh X hX => hh X fun g s s' hw hb => hX g s s' hw (ih g s' _ _ (thenY_mono (fun _ _ hx => hx) h) hb)
  | exit id => exact fun g st K K' h hh => h _ _ _ hh
  | ret => exact fun g st K K' h hh => h _ _ _ hh
  | scope b ih => exact fun g st K K' h hh => ih g st K K' h hh
  | frz fz b ih =>
    rintro g st K K' h ⟨st', h1, h2⟩
    exact ⟨st', h1, ih g st' K K' h h2⟩
  | stop b => exact fun g st K K' h hh => hh.elim
  | rng x ps a b => exact fun g st K K' h hh => hh.elim

/-- what the loop that calls us has promised -/
structure Rounds (P : Program) (gl : Nat → Option (List AV)) (l m : Nat) (items : List (Bool × List AV)) (J : Option Nat → (Nat → Prop) → (Nat → Prop) → World → Prop) : Prop where
  st : ∀ g, JStable (J g)
  go : ∀ (k : Nat) (it : Bool × List AV) (imm1 Z1 : Nat → Prop) (W1 : World) (v : Value), items[k]? = some it → J (some k) imm1 Z1 W1 → (∀ x, imm1 x → x < W1.heap.size) → (∀ x, Z1 x → x < W1.heap.size ∧ ¬ imm1 x) →
      (∃ us, F2 (PR W1 imm1) it.2 us ∧ (if it.1 = true then v = .agg us.toArray else us = [v])) →
      YieldAt Fence.wide m P l #[v] W1 fun e W' => ∃ (t : Bool) (imm' : Nat → Prop), e = .returned (.bool t) ∧ J (if t = true then some (k + 1) else none) imm' Z1 W' ∧ (∀ x, imm1 x → imm' x) ∧
        (∀ x, imm' x → x < W'.heap.size ∧ ¬ Z1 x) ∧ Ext (fun x => ¬ imm1 x ∧ ¬ Z1 x) W1 W'
  pers : ∀ it ∈ items, it.2.all AV.pers = true

/-- an iterator's environment -/
def envY (nt : Nat) (w0 : World) (imm0 : Nat → Prop) (gl : Nat → Option (List AV)) (J : Option Nat → (Nat → Prop) → (Nat → Prop) → World → Prop) (h : ∀ g, JStable (J g)) (g : Option Nat) : Env :=
  { nt, w0, S := fun x => ¬ imm0 x, imm0, gl, defs := [], q := true, pinr := none, pin := fun _ => none, J := J g, jst := h g }

def AtY (Ev : Option Nat → Env) (Q : Option Nat → St → Prop) (a : Act) (w : World) : Prop := ∃ g st ρ imm, Q g st ∧ Real (Ev g) (fun b => b < st.nx) st.sl st.hp ρ imm a w

theorem RoundIn.any {m m' : Nat} {l : Nat} {f : FuncId} {tmps : Array Value} {assign body : Code} {w : World} {R : Ending → World → Prop} (h : RoundIn Fence.wide m P l f tmps assign body w R) : RoundIn Fence.wide m' P l f tmps assign body w R :=
  ⟨h.1, fun c cs _ => h.2 c cs (by simp [Fence.room, Fence.wide])⟩

theorem compOp_dyn {op : Op} {x' : Opd} {ys : List Opd} (h : compOp P op = some (.dyn x' ys)) : ∃ (c : Call) (x : Operand), op = .call c ∧ c.callee = .value x ∧ opdOf x = some x' ∧ opdsOf c.args.toList = some ys := by
  cases op with
  | call c =>
    simp only [compOp] at h
    split at h
    · simp only [Option.map_eq_some_iff, reduceCtorEq, and_false, exists_false] at h
    · rename_i t hcal
      simp only [Option.map_eq_some_iff, AOp.dyn.injEq] at h
      obtain ⟨zs, hz, rfl, rfl⟩ := h
      exact ⟨c, _, rfl, hcal, rfl, hz⟩
    all_goals
      exfalso
      revert h
      (repeat' split) <;> first
        | (simp [Option.map_eq_some_iff, Option.bind_eq_some_iff]; done)
        | (intros; simp_all; done)
  | _ =>
    exfalso
    revert h
    simp only [compOp]
    (repeat' split) <;> first
      | (simp [Option.map_eq_some_iff, Option.bind_eq_some_iff]; done)
      | (intros; simp_all; done)
section
variable {nt m l : Nat} {w0 : World} {imm0 : Nat → Prop} {gl : Nat → Option (List AV)} {items : List (Bool × List AV)} {J : Option Nat → (Nat → Prop) → (Nat → Prop) → World → Prop}

/-- a call of yield -/
theorem yield_sound (hR : Rounds P gl l m items J) {Q : Exit → Act → World → Prop} {o : Oper} {c : Call} {x : Operand} {x' y' : Opd} {k : Nat} {it : Bool × List AV} {A : Nat → Prop} {sl : Nat → SV} {hp : Nat → Option HE} {ρ : Nat → Cn} {imm : Nat → Prop} {a : Act} {w : World}
    (h : Real (envY nt w0 imm0 gl J hR.st (some k)) A sl hp ρ imm a w) (hd : dstOk (envY nt w0 imm0 gl J hR.st (some k)) o.dst) (ho : o.op = .call c) (hcal : c.callee = .value x) (hx : opdOf x = some x') (hys : opdsOf c.args.toList = some [y'])
    (hex : ev gl sl x' = .c false [.v (.func (.yield l) #[] #[])]) (hit : items[k]? = some it) (hey : ev gl sl y' = .c it.1 it.2) {K : Act → World → Prop}
    (hK : ∀ (t : Bool) (imm' : Nat → Prop) (w' : World), Real (envY nt w0 imm0 gl J hR.st (if t = true then some (k + 1) else none)) A (putS sl o.dst (.c false [.b t])) hp ρ imm' (a.put o.dst (.bool t)) w' → K (a.put o.dst (.bool t)) w') :
    o.wpIn Fence.wide n P a w K Q := by
  have hne : ∀ c, o.op ≠ .defer c := by simp [ho]
  have hv : a.eval x = .func (.yield l) #[] #[] := evv1 h hx hex
  obtain ⟨h1, _⟩ := evs_RS h (opdsOf_F2 hys)
  obtain ⟨v, hv1, hv2⟩ : ∃ v, c.args.toList.map a.eval = [v] ∧ RS w imm ρ (ev gl sl y') v := by
    cases hcv : c.args.toList.map a.eval with
    | nil => rw [hcv] at h1; exact h1.elim
    | cons v vs =>
      rw [hcv] at h1
      cases vs with
      | nil => exact ⟨v, rfl, h1.1⟩
      | cons u us => exact h1.2.elim
  rw [hey] at hv2
  have hpers := hR.pers it (List.mem_of_getElem? hit)
  have hitem : ∃ us, F2 (PR w imm) it.2 us ∧ (if it.1 = true then v = .agg us.toArray else us = [v]) := by
    obtain ⟨us, g1, g2⟩ := hv2
    exact ⟨us, F2.mono (fun x hx u hq => by rw [RA.of_pers (List.all_eq_true.1 hpers x hx)] at hq; exact hq) g1, g2⟩
  obtain ⟨fn, tmps, assign, body, hy, hround⟩ := hR.go k it imm (usedBy hp ρ) w v hit h.jinv h.immlt (fun x hx => ⟨(h.usedlt hx).1, (h.usedlt hx).2.1⟩) hitem
  refine ⟨fun f _ => trivial, ?_⟩
  have hrun : (execOp a.eval o).run P w = .ok (.round l fn tmps assign body) w := by
    have hargs : (c.args.map a.eval) = #[v] := by apply Array.ext'; simpa using hv1
    simp only [execOp, ho, resolve, hcal, Sem.run_bind, hv, Deferred.ofValue, Sem.run_pure, Result.andThen_ok, invoke, hargs]
    simpa using hy
  rw [Oper.semAt_eq _ _ _ hne, hrun]
  refine ⟨fun hd => by simp [Fence.wide] at hd, (RoundIn.any hround).mono ?_⟩
  rintro e W' ⟨t, imm', rfl, hj, hi, hi', hext⟩
  refine hK t imm' W' ?_
  have hblk : ∀ b, imm b → W'.heap[b]? = w.heap[b]? := fun b hb => hext.block b (h.immlt b hb) (fun hx => hx.1 hb)
  have himm0 : ∀ x, imm0 x → imm x := h.imm0
  refine h.turn (E' := envY nt w0 imm0 gl J hR.st _) hext (fun x hx => hx) hi (fun x hx => ⟨(hi' x hx).1, (hi' x hx).2, ?_⟩) (by rw [put_size]; exact h.nt) rfl (fun i => ?_) (fun x hx => (h.usedlt hx).2.2) (fun x hx => hi x (himm0 x hx)) (h.ext.trans hext (fun x hx => .inl (fun h0 => hx.1 (himm0 x h0)))) (fun _ _ h => by cases h) (fun _ h => by cases h)
    ?_ hj
  · by_cases h0 : imm0 x
    · exact .inl h0
    · exact .inr (.inr h0)
  · cases hdd : o.dst with
    | none => exact ⟨by simpa [putS, Act.put] using (h.slots i).mono hi hblk, by simpa [putS] using h.wf.ids i⟩
    | some d =>
      rw [put_getD _ _ _ _ (by rw [h.nt]; exact hd d hdd)]
      simp only [putS, upd_apply]
      by_cases hid : i = d
      · simp only [hid, if_true]
        exact ⟨RS_mkv rfl, fun x hx => by simp [SV.cells] at hx; subst hx; exact .none_id rfl⟩
      · simp only [hid, if_false]
        exact ⟨(h.slots i).mono hi hblk, h.wf.ids i⟩
  · obtain ⟨ds, e1, e2, e3⟩ := h.defs
    have hds := e2.2 rfl
    subst hds
    exact ⟨[], by rw [put_defers]; exact e1, e2, by simp⟩

/-- a region in the order of its text -/
theorem evY_sound {ops : Array Oper} (hR : Rounds P gl l m items J) {Q : Exit → Act → World → Prop} {R : Option Nat → St → Prop} (hQ : ∀ a w, AtY (envY nt w0 imm0 gl J hR.st) R a w → Q .normal a w) : ∀ (ol : List Oper) (k : Nat) (as : List AOper) (g : Option Nat) (st : St) (a : Act) (w : World) (ρ : Nat → Cn) (imm : Nat → Prop),
    ops.toList.drop k = ol → ol.mapM (compOper P nt ops) = some as → Real (envY nt w0 imm0 gl J hR.st g) (fun b => b < st.nx) st.sl st.hp ρ imm a w → evY P gl l items as g st.sl st.hp st.nx R → wpOpsIn Fence.wide n P ops Q (List.range' k ol.length) a w
  | [], k, as, g, st, a, w, ρ, imm, hl, hc, h, hs => by
    simp only [List.mapM_nil] at hc
    cases hc
    exact hQ _ _ ⟨g, st, ρ, imm, hs, h⟩
  | o :: ol, k, as, g, st, a, w, ρ, imm, hl, hc, h, hs => by
    rw [List.mapM_cons] at hc
    obtain ⟨ao, hao, hc⟩ := Option.bind_eq_some_iff.1 hc
    obtain ⟨as', has, hc⟩ := Option.bind_eq_some_iff.1 hc
    cases hc
    have hk : ops[k]? = some o := by
      rw [← Array.getElem?_toList, ← List.head?_drop, hl]; rfl
    have htail : ops.toList.drop (k + 1) = ol := by
      have := congrArg List.tail hl
      simpa [List.tail_drop] using this
    simp only [List.length_cons, List.range'_succ, wpOpsIn, hk]
    rw [evY] at hs
    have hao0 := hao
    unfold compOper at hao
    obtain ⟨aop, hop, hcc⟩ := Option.bind_eq_some_iff.1 hao
    split at hcc
    rotate_left
    · cases hcc
    rename_i hdst
    have hd : dstOk (envY nt w0 imm0 gl J hR.st g) o.dst := by
      intro i hi
      rw [hi] at hdst
      show i < nt
      simpa [dstB] using hdst
    have next : ∀ (g' : Option Nat) (s : SV) (v : Value) (imm' : Nat → Prop) (w' : World), Real (envY nt w0 imm0 gl J hR.st g') (fun b => b < st.nx) (putS st.sl o.dst s) st.hp ρ imm' (a.put o.dst v) w' → evY P gl l items as' g' (putS st.sl o.dst s) st.hp st.nx R →
        wpOpsIn Fence.wide n P ops Q (List.range' (k + 1) ol.length) (a.put o.dst v) w' := fun g' s v imm' w' h' hs' =>
      evY_sound hR hQ ol (k + 1) as' g' ⟨putS st.sl o.dst s, st.hp, st.nx⟩ _ _ ρ imm' htail has h' hs'
    have skip : evY P gl l items as' g (putS st.sl o.dst (.tup [])) st.hp st.nx R → (∀ f, o.about P w a.eval = some f → Fence.wide.fn f) ∧ wpOpsIn Fence.wide n P ops Q (List.range' (k + 1) ol.length) (a.put o.dst undef) w := fun hs' =>
      ⟨fun f _ => trivial, next g (.tup []) undef imm w (h.put hd (show RS w imm ρ (.tup []) undef from ⟨[], rfl, trivial⟩) (by simp [SV.cells])) hs'⟩
    split at hs
    · -- a call of yield
      rename_i l' y he
      have hyo : ∃ (x' y' : Opd), aop = .dyn x' [y'] ∧ ev gl st.sl x' = .c false [.v l'] ∧ ev gl st.sl y' = y ∧ ao.op = aop ∧ ao.dst = o.dst := by
        have hao2 : ao.op = aop ∧ ao.dst = o.dst := by
          split at hcc
          · cases hcc; exact ⟨rfl, rfl⟩
          · split at hcc
            · cases hcc; exact ⟨rfl, rfl⟩
            · cases hcc
        rw [hao2.1] at he
        unfold yop at he
        split at he
        · rename_i x' y'
          split at he
          · rename_i hex
            simp only [Option.some.injEq, Prod.mk.injEq] at he
            obtain ⟨rfl, rfl⟩ := he
            exact ⟨x', y', rfl, hex, rfl, hao2.1, hao2.2⟩
          · cases he
        · cases he
      obtain ⟨x', y', rfl, hex, rfl, hao2, hdd⟩ := hyo
      obtain ⟨c, x, ho, hcal, hx, hys⟩ := compOp_dyn hop
      rw [hdd] at hs
      have act : actY l items g l' (ev gl st.sl y') (fun g b => evY P gl l items as' g (putS st.sl o.dst (.c false [.b b])) st.hp st.nx R) → o.wpIn Fence.wide n P a w (wpOpsIn Fence.wide n P ops Q (List.range' (k + 1) ol.length)) Q := by
        intro hact
        cases g with
        | none => exact hact.elim
        | some kk =>
          obtain ⟨rfl, ⟨it, hit, hey⟩, h1, h2⟩ := hact
          refine yield_sound hR h hd ho hcal hx hys hex hit hey fun t imm' w' h' => ?_
          cases t
          · exact next none _ _ imm' w' h' h2
          · exact next (some (kk + 1)) _ _ imm' w' h' h1
      have hg : o.guard = none ∧ ao.gd = none ∨ ∃ gi want d, o.guard = some (gi, want) ∧ ao.gd = some (d, want) ∧ (ops[gi]?).bind (·.dst) = some d := by
        cases hgu : o.guard with
        | none => rw [hgu] at hcc; cases hcc; exact .inl ⟨rfl, rfl⟩
        | some gw =>
          obtain ⟨gi, want⟩ := gw
          rw [hgu] at hcc
          simp only at hcc
          split at hcc
          · rename_i d hd'; cases hcc; exact .inr ⟨gi, want, d, rfl, rfl, hd'⟩
          · cases hcc
      rcases hg with ⟨hg, hgd⟩ | ⟨gi, want, d, hg, hgd, hdst'⟩
      · rw [hgd] at hs
        show wpOne Fence.wide n P ops Q o (wpOpsIn Fence.wide n P ops Q (List.range' (k + 1) ol.length)) a w
        unfold wpOne
        simp only [Region.wanted, hg, if_true]
        exact act hs
      · rw [hgd] at hs
        show wpOne Fence.wide n P ops Q o (wpOpsIn Fence.wide n P ops Q (List.range' (k + 1) ol.length)) a w
        have hyd : yielded ops a.tmps gi = match a.tmps[d]? with | some (.bool b) => some b | _ => none := by
          unfold yielded
          rw [hdst']
          rfl
        have hsl := h.slots d
        unfold wpOne
        simp only [Region.wanted, hg, hyd]
        simp only at hs
        split at hs
        · rename_i b hb
          rw [hb] at hsl
          have hv : a.tmps.getD d undef = .bool b := RS_v hsl
          have hv' : a.tmps[d]? = some (.bool b) := by
            rw [Array.getD_eq_getD_getElem?] at hv
            cases ht : a.tmps[d]? with
            | none => rw [ht] at hv; cases hv
            | some u => rw [ht] at hv; simp at hv; rw [hv]
          rw [hv']
          simp only
          by_cases hbw : b = want
          · rw [if_pos (by simp [hbw])]
            exact act (hs.1 hbw)
          · rw [if_neg (by simpa using hbw)]
            exact skip (hs.2 (by cases b <;> cases want <;> simp_all))
        · rename_i he0
          rw [he0] at hsl
          have hv : a.tmps.getD d undef = .tuple #[] := by
            obtain ⟨us, h1, h2⟩ := hsl
            cases us with
            | nil => exact h1
            | cons => exact h2.elim
          have hno : (match a.tmps[d]? with | some (.bool b) => some b | _ => none) = none := by
            rw [Array.getD_eq_getD_getElem?] at hv
            cases ht : a.tmps[d]? with
            | none => rfl
            | some u => rw [ht] at hv; simp at hv; rw [hv]
          rw [hno]
          rw [if_neg (by simp)]
          exact skip hs
        · exact hs.elim
    · have hs' := oper_sound (n := n) (Q := Q) (j := st.nx) hao0 rfl wideF_wide h (by simp) (by rw [forceN_eq] at hs; exact hs)
      refine wpOne_mono (Q := Q) (fun a' w' hpost => ?_) hs'
      obtain ⟨out, u, ρ', imm', hk', hr⟩ := hpost
      rw [forceS_eq, forceU_eq] at hk'
      refine evY_sound hR hQ ol (k + 1) as' g ⟨putS st.sl ao.dst out, putH st.hp u, st.nx + 1⟩ a' w' ρ' imm' htail has (hr.weakA (fun x hx => ?_)) hk'
      rcases hx with hx | hx
      · exact Nat.lt_succ_of_lt hx
      · rw [hx]; exact Nat.lt_succ_self _
end
end Go.Proofs.YtlbafapmhjfobaaGreatDoor
namespace Go.Proofs.YtlbafapmhjfobaaGreatDoor
variable {P : Program} {n : Nat}

def PostY (Ev : Option Nat → Env) (K : Ex → Option Nat → St → Prop) : Exit → Act → World → Prop
  | .normal, a, w => AtY Ev (K .normal) a w
  | .exit id, a, w => AtY Ev (K (.exit id)) a w
  | .ret, a, w => AtY Ev (K .ret) a w
  | _, _, _ => False

theorem WY_sound {nt m l : Nat} {fz : List Nat} {w0 : World} {imm0 : Nat → Prop} {gl : Nat → Option (List AV)} {items : List (Bool × List AV)} {J : Option Nat → (Nat → Prop) → (Nat → Prop) → World → Prop}
    (hfol : P.follows .mixedOrders = true) (hR : Rounds P gl l m items J) : ∀ (c : Code) (ac : ACode) (g : Option Nat) (st : St) (K : Ex → Option Nat → St → Prop) (ρ : Nat → Cn) (imm : Nat → Prop) (a : Act) (w : World),
    comp P nt fz c = some ac → Real (envY nt w0 imm0 gl J hR.st g) (fun b => b < st.nx) st.sl st.hp ρ imm a w → WY P gl l items ac g st K → c.wpIn Fence.wide n P (PostY (envY nt w0 imm0 gl J hR.st) K) a w := by
  intro c
  induction c with
  | skip =>
    intro ac g st K ρ imm a w hc h hs
    simp only [comp, Option.some.injEq] at hc; subst hc
    exact wpIn_skip ⟨g, st, ρ, imm, hs, h⟩
  | label l =>
    intro ac g st K ρ imm a w hc h hs
    simp only [comp, Option.some.injEq] at hc; subst hc
    exact wpIn_label ⟨g, st, ρ, imm, hs, h⟩
  | exit id =>
    intro ac g st K ρ imm a w hc h hs
    simp only [comp, Option.some.injEq] at hc; subst hc
    exact wpIn_exit ⟨g, st, ρ, imm, hs, h⟩
  | ret =>
    intro ac g st K ρ imm a w hc h hs
    simp only [comp, Option.some.injEq] at hc; subst hc
    exact wpIn_ret ⟨g, st, ρ, imm, hs, h⟩
  | region id ops draw =>
    intro ac g st K ρ imm a w hc h hs
    simp only [comp, Option.bind_eq_some_iff] at hc
    obtain ⟨os, hos, hc⟩ := hc
    have key : ∀ (st : St) (ρ : Nat → Cn) (imm : Nat → Prop), (draw && !statOk os) = false → Real (envY nt w0 imm0 gl J hR.st g) (fun b => b < st.nx) st.sl st.hp ρ imm a w → WY P gl l items (.reg draw os) g st K → (Code.region id ops draw).wpIn Fence.wide n P (PostY (envY nt w0 imm0 gl J hR.st) K) a w := by
      intro st ρ imm hst h hs
      cases draw with
      | true =>
        simp only [Bool.true_and, Bool.not_eq_false'] at hst
        refine wpIn_region_any hfol ?_
        exact evD_sound (E := envY nt w0 imm0 gl J hR.st g) (R := K .normal g) rfl wideF_wide hos hst (fun a w h => by obtain ⟨st, ρ, imm, h1, h2⟩ := h; exact ⟨g, st, ρ, imm, h1, h2⟩) (h.same rfl rfl rfl rfl (Nat.le_succ _)) hs
      | false =>
        refine wpIn_region ?_
        have := evY_sound (n := n) hR (Q := PostY (envY nt w0 imm0 gl J hR.st) K) (R := K .normal) (fun a w h => h) ops.toList 0 os g st a w ρ imm rfl hos h hs
        rw [List.range_eq_range']
        simpa using this
    split at hc
    · cases hc
    · rename_i hst
      simp only [Bool.not_eq_true] at hst
      split at hc
      · simp only [Option.some.injEq] at hc; subst hc
        obtain ⟨st', hw, hs⟩ := hs
        obtain ⟨ρ', imm', h'⟩ := hw _ ρ imm a w rfl h
        exact key st' ρ' imm' hst h' hs
      · simp only [Option.some.injEq] at hc; subst hc
        exact key st ρ imm hst h hs
  | seq x y ihx ihy =>
    intro ac g st K ρ imm a w hc h hs
    simp only [comp, Option.bind_eq_some_iff, Option.map_eq_some_iff] at hc
    obtain ⟨ax, hx, ay, hy, rfl⟩ := hc
    refine wpIn_seq (wpIn_mono (ihx ax g st _ ρ imm a w hx h hs) fun e a' w' hp => ?_)
    cases e with
    | normal =>
      obtain ⟨g', st', ρ', imm', hk, hr⟩ := hp
      exact ihy ay g' st' K ρ' imm' a' w' hy hr hk
    | exit id => exact hp
    | ret => exact hp
    | goto => exact hp.elim
    | panic => exact hp.elim
    | outgrown => exact hp.elim
  | cond x y z ihy ihz =>
    intro ac g st K ρ imm a w hc h hs
    simp only [comp, Option.bind_eq_some_iff, Option.map_eq_some_iff] at hc
    obtain ⟨x', hx, ay, hy, az, hz, rfl⟩ := hc
    rw [WY] at hs
    split at hs
    · rename_i t he
      exact wpIn_cond_split (t := t) (evv1 h hx he) (fun ht => ihy ay g st K ρ imm a w hy h (hs.1 ht)) (fun ht => ihz az g st K ρ imm a w hz h (hs.2 ht))
    · exact hs.elim
  | block id b ih =>
    intro ac g st K ρ imm a w hc h hs
    simp only [comp, Option.map_eq_some_iff] at hc
    obtain ⟨ab, hb, rfl⟩ := hc
    refine wpIn_block (wpIn_mono (ih ab g st _ ρ imm a w hb h hs) fun e a' w' hp => ?_)
    cases e with
    | normal => exact hp
    | exit i =>
      obtain ⟨g', st', ρ', imm', hk, hr⟩ := hp
      simp only [Exit.inBlock]
      simp only [blockY] at hk
      split
      · rename_i he; rw [if_pos he] at hk; exact ⟨g', st', ρ', imm', hk, hr⟩
      · rename_i he; rw [if_neg he] at hk; exact ⟨g', st', ρ', imm', hk, hr⟩
    | ret => exact hp
    | goto => exact hp.elim
    | panic => exact hp.elim
    | outgrown => exact hp.elim
  | scope b ih =>
    intro ac g st K ρ imm a w hc h hs
    simp only [comp, Option.map_eq_some_iff] at hc
    obtain ⟨ab, hb, rfl⟩ := hc
    refine wpIn_scope (wpIn_mono (ih ab g st _ ρ imm a w hb h hs) fun e a' w' hp => ?_)
    cases e with
    | normal => exact hp
    | exit i => exact hp
    | ret => exact hp
    | goto => exact hp.elim
    | panic => exact hp.elim
    | outgrown => exact hp.elim
  | loop b ih =>
    intro ac g st K ρ imm a w hc h hs
    simp only [comp, Option.map_eq_some_iff] at hc
    obtain ⟨ab, hb, rfl⟩ := hc
    refine LoopAt.loop (hs (fun g s => ∀ (ρ : Nat → Cn) (imm : Nat → Prop) (a : Act) (w : World), Real (envY nt w0 imm0 gl J hR.st g) (fun b => b < s.nx) s.sl s.hp ρ imm a w → LoopAt Fence.wide n P b (PostY (envY nt w0 imm0 gl J hR.st) K) a w) ?_ ρ imm a w h)
    intro g1 s s' hwk hb1 ρ1 imm1 a1 w1 h1
    obtain ⟨ρ2, imm2, h2⟩ := hwk _ ρ1 imm1 a1 w1 rfl h1
    refine LoopAt.round (wpIn_mono (ih ab g1 s' _ ρ2 imm2 a1 w1 hb h2 hb1) fun e a' w' hp => ?_)
    cases e with
    | normal =>
      obtain ⟨g3, st3, ρ3, imm3, hx, hr3⟩ := hp
      exact hx ρ3 imm3 a' w' hr3
    | exit i => exact hp
    | ret => exact hp
    | goto => exact hp.elim
    | panic => exact hp.elim
    | outgrown => exact hp.elim
  | rangeFunc g ps asg body iha ihb =>
    intro ac gg st K ρ imm a w hc h hs
    exfalso
    simp only [comp] at hc
    split at hc
    · split at hc
      · simp only [Option.bind_eq_some_iff, Option.map_eq_some_iff] at hc
        obtain ⟨x, hx, aa, ha, ab, hb, rfl⟩ := hc
        exact hs
      · cases hc
    · cases hc
  | _ => intro ac g st K ρ imm a w hc; simp [comp] at hc

/-- a loop of an iterator, whose states are numbered by α; what has come: g -/
theorem LoopY_of {gl : Nat → Option (List AV)} {l : Nat} {items : List (Bool × List AV)} {α : Type} (p : α → Prop) (I : α → St) (G : α → Option Nat) (μ : α → Nat) {b : ACode} {g : Option Nat} {st : St} {K : Ex → Option Nat → St → Prop} (x0 : α) (h0 : p x0) (hg : g = G x0) (hw : Weak gl st (I x0))
    (hs : ∀ x, p x → WY P gl l items b (G x) (I x) (thenY (fun g' st' => ∃ y, p y ∧ g' = G y ∧ μ y < μ x ∧ Weak gl st' (I y)) K)) : LoopY gl (WY P gl l items b) g st K := by
  intro X hX
  have claim : ∀ (m : Nat) (x : α), μ x = m → p x → WY P gl l items b (G x) (I x) (thenY X K) := by
    intro m
    induction m using Nat.strongRecOn with
    | _ m ih =>
      intro x hm hp
      refine WY_mono b _ _ _ _ (fun e g' st' hh => ?_) (hs x hp)
      cases e with
      | normal =>
        obtain ⟨y, h1, h2, h3, h4⟩ := hh
        rw [h2]
        exact hX (G y) st' (I y) h4 (ih (μ y) (by omega) y rfl h1)
      | exit i => exact hh
      | ret => exact hh
  subst hg
  exact hX (G x0) st (I x0) hw (claim _ x0 rfl h0)
theorem LoopY_round {gl : Nat → Option (List AV)} {l : Nat} {items : List (Bool × List AV)} {b : ACode} {g : Option Nat} {st : St} {K : Ex → Option Nat → St → Prop} (h : WY P gl l items b g st (thenY (fun g s => LoopY gl (WY P gl l items b) g s K) K)) : LoopY gl (WY P gl l items b) g st K := fun X hX =>
  hX g st st (.refl st) (WY_mono b _ _ _ _ (fun e g' st' hh => by
    cases e with
    | normal => exact hh X hX
    | exit i => exact hh
    | ret => exact hh) h)

/-- an iterator as its walk begins -/
def st0Y (l : Nat) (caps : List AV) : St :=
  ⟨fun i => match i with | 0 => .c false [.v (.func (.yield l) #[] #[])] | i + 1 => match caps[i]? with | some c => .c false [c] | none => .top, fun _ => none, 1⟩
def endY (items : List (Bool × List AV)) : Ex → Option Nat → St → Prop
  | .exit _, _, _ => False
  | _, g, _ => g = some items.length ∨ g = none

theorem spec_iter {f : Nat} {fn : Func} {ac : ACode} {fz : List Nat} {gl : Nat → Option (List AV)} {caps : List AV} {items : List (Bool × List AV)} {nt : Nat} (hc : fn.body.bind (comp P fn.ntmps fz) = some ac) (hf : P.funcs[f]? = some fn)
    (hen : EntersP P f) (hfol : P.follows .mixedOrders = true) (hn : fn.ntmps = nt) (hrs : fn.results = #[]) (hle : caps.length + 1 ≤ nt) (hcaps : caps.all AV.pers = true) (hit : ∀ it ∈ items, it.2.all AV.pers = true)
    (hW : ∀ l, WY P gl l items ac (some 0) (st0Y l caps) (endY items)) : IterSpec P gl f caps items := by
  obtain ⟨body, hb, hc⟩ := Option.bind_eq_some_iff.1 hc
  refine ⟨hen, hit, fun w imm us l m J himm hgl hus hst hgo h0 => ?_⟩
  have hR : Rounds P gl l m items J := ⟨hst, hgo, hit⟩
  have hlen := hus.length
  have hun : ∀ x, ¬ usedBy (st0Y l caps).hp (fun _ => (⟨0, .nilFunc, 0, 0⟩ : Cn)) x := by rintro x ⟨b, he, hb, _⟩; cases hb
  have hreal : Real (envY fn.ntmps w imm gl J hR.st (some 0)) (fun b => b < (st0Y l caps).nx) (st0Y l caps).sl (st0Y l caps).hp (fun _ => ⟨0, .nilFunc, 0, 0⟩) imm { tmps := #[Value.func (.yield l) #[] #[]] ++ us.toArray ++ Array.replicate (fn.ntmps - (#[Value.func (.yield l) #[] #[]] ++ us.toArray).size) undef, defers := [] } w := by
    have hpu : ∀ (i : Nat) (x : AV), caps[i]? = some x → x.pers = true := fun i x hx => List.all_eq_true.1 hcaps x (List.mem_of_getElem? hx)
    refine { wf := ⟨fun i x hx => ?_, fun b he hb => by cases hb⟩, slots := fun i => ?_, nt := ?_, defs := ⟨[], rfl, ⟨List.nodup_nil, fun _ => rfl⟩, by simp⟩, heap := fun b he hb => by (cases hb), used := fun b he hb => by (cases hb), inj := fun b b' he he' hb => by (cases hb), immlt := himm, imm0 := fun _ h => h, immF := fun _ h => .inl h, ext := .refl _ _, glob := hgl, pin := fun b c h => by (cases h), pinr := fun c h => by (cases h), jinv := ?_ }
    · refine .none_id ?_
      cases i with
      | zero => simp [st0Y, SV.cells] at hx; subst hx; rfl
      | succ i =>
        simp only [st0Y] at hx
        split at hx
        · rename_i c hcc
          simp [SV.cells] at hx; subst hx
          exact pers_noid0 (hpu i _ hcc)
        · simp [SV.cells] at hx
    · cases i with
      | zero =>
        have : (#[Value.func (.yield l) #[] #[]] ++ us.toArray ++ Array.replicate (fn.ntmps - (#[Value.func (.yield l) #[] #[]] ++ us.toArray).size) undef).getD 0 undef = .func (.yield l) #[] #[] := by
          rw [Array.getD_eq_getD_getElem?, Array.getElem?_append_left (by simp)]
          simp
        show RS w imm _ (.c false [.v (.func (.yield l) #[] #[])]) _
        rw [this]
        exact RS_mkv rfl
      | succ i =>
        simp only [st0Y]
        split
        · rename_i c hcc
          obtain ⟨u, hu, hr⟩ := hus.ex hcc
          have hi : i < us.length := (List.getElem?_eq_some_iff.1 hu).1
          have : (#[Value.func (.yield l) #[] #[]] ++ us.toArray ++ Array.replicate (fn.ntmps - (#[Value.func (.yield l) #[] #[]] ++ us.toArray).size) undef).getD (i + 1) undef = u := by
            rw [Array.getD_eq_getD_getElem?, Array.getElem?_append_left (by simp; omega), Array.getElem?_append_right (by simp)]
            simp [hu]
          rw [this]
          exact .mk1 (.of_PR hr)
        · trivial
    · show _ = fn.ntmps
      simp only [Array.size_append, List.size_toArray, Array.size_replicate, List.length_cons, List.length_nil]
      omega
    · have := hst (some 0) imm (fun _ => False) w imm (usedBy (st0Y l caps).hp fun _ => ⟨0, .nilFunc, 0, 0⟩) w (fun _ => False) h0 (fun _ h => h.elim) (.refl _ _) (fun _ h => h) (fun _ h => h) (fun x hx => ⟨himm x hx, .inl hx⟩) (fun x hx => (hun x hx).elim)
      exact this
  refine callsIn_of_wp hf hb trivial (wpIn_mono (WY_sound (n := 0) hfol hR body ac _ _ _ _ _ _ _ hc hreal (hW l)) fun e a' w' hp => ?_)
  have fin : ∀ (g : Option Nat) (st : St) (ρ : Nat → Cn) (imm' : Nat → Prop), (g = some items.length ∨ g = none) → Real (envY fn.ntmps w imm gl J hR.st g) (fun b => b < st.nx) st.sl st.hp ρ imm' a' w' →
      a'.defers = [] ∧ ∃ v, (results fn a'.tmps).run P w' = .ok v w' ∧ ((∃ v', Ending.returned v = .returned v') ∧ ∃ imm', J (some items.length) imm' (fun _ => False) w' ∨ J none imm' (fun _ => False) w') := by
    intro g st ρ imm' hg hr
    have hd : a'.defers = [] := by
      obtain ⟨ds, e1, e2, _⟩ := hr.defs
      have := e2.2 rfl
      subst this
      exact e1
    refine ⟨hd, .tuple #[], ?_, ⟨_, rfl⟩, imm', ?_⟩
    · simp [results, hrs]
    · have key : J g imm' (fun _ => False) w' := hst g imm' (usedBy st.hp ρ) w' imm' (fun _ => False) w' (fun _ => False) hr.jinv (fun x hx => ⟨(hr.usedlt hx).1, (hr.usedlt hx).2.1⟩) (.refl _ _) (fun _ h => h.elim) (fun _ h => h) (fun x hx => ⟨hr.immlt x hx, .inl hx⟩) (fun _ h => h.elim)
      rcases hg with rfl | rfl
      · exact .inl key
      · exact .inr key
  cases e with
  | normal => obtain ⟨g, st, ρ, imm', hk, hr⟩ := hp; exact fin g st ρ imm' hk hr
  | ret => obtain ⟨g, st, ρ, imm', hk, hr⟩ := hp; exact fin g st ρ imm' hk hr
  | exit id => obtain ⟨g, st, ρ, imm', hk, hr⟩ := hp; exact hk.elim
  | goto => exact hp.elim
  | panic => exact hp.elim
  | outgrown => exact hp.elim
end Go.Proofs.YtlbafapmhjfobaaGreatDoor
namespace Go.Proofs.YtlbafapmhjfobaaGreatDoor
variable {P : Program} {gl : Nat → Option (List AV)}

/-- a state as a list of its slots and of its blocks -/
def slots : List (Nat × SV) → Nat → SV
  | [], _ => .top
  | (i, v) :: r, j => if j = i then v else slots r j
def blocks : List (Nat × HE) → Nat → Option HE
  | [], _ => none
  | (i, v) :: r, j => if j = i then some v else blocks r j
def mk (L : List (Nat × SV)) (H : List (Nat × HE)) (N : Nat) : St := ⟨slots L, blocks H, N⟩
def below (N : Nat) (cs : List AV) : Bool := cs.all fun x => match x.id? with | some b => decide (b < N) | none => true
def belowS (N : Nat) : List (Nat × SV) → Bool
  | [] => true
  | (_, v) :: r => below N v.cells && belowS N r
def belowH (N : Nat) : List (Nat × HE) → Bool
  | [] => Nat.ble 100 N
  | (b, v) :: r => decide (b < N) && below N v.cells && belowH N r
def eqS (sl : Nat → SV) (hp : Nat → Option HE) (D : Nat → Prop) : List (Nat × SV) → Prop
  | [] => True
  | (i, v) :: r => coeFS hp D (sl i) v ∧ eqS sl hp D r
def eqH (hp : Nat → Option HE) (D : Nat → Prop) : List (Nat × HE) → Prop
  | [] => True
  | (b, v) :: r => coeFH hp D b (some v) ∧ eqH hp D r
/-- .. nothing being frozen -/
def eqS0 (sl : Nat → SV) : List (Nat × SV) → Prop
  | [] => True
  | (i, v) :: r => sl i = v ∧ eqS0 sl r
def eqH0 (hp : Nat → Option HE) : List (Nat × HE) → Prop
  | [] => True
  | (b, v) :: r => hp b = some v ∧ eqH0 hp r

theorem below_spec {N : Nat} {cs : List AV} (h : below N cs = true) : ∀ x ∈ cs, ∀ b, x.id? = some b → b < N := by
  intro x hx b hb
  have := List.all_eq_true.1 h x hx
  rw [hb] at this
  simpa using this
theorem belowS_spec {N : Nat} : ∀ {L : List (Nat × SV)}, belowS N L = true → ∀ i, ∀ x ∈ (slots L i).cells, ∀ b, x.id? = some b → b < N
  | [], _, i, x, hx, _, _ => by simp [slots, SV.cells] at hx
  | (j, v) :: r, h, i, x, hx, b, hb => by
    simp only [belowS, Bool.and_eq_true] at h
    simp only [slots] at hx
    split at hx
    · exact below_spec h.1 x hx b hb
    · exact belowS_spec h.2 i x hx b hb
theorem belowH_spec {N : Nat} : ∀ {H : List (Nat × HE)}, belowH N H = true → ∀ b he, blocks H b = some he → b < N ∧ ∀ x ∈ he.cells, ∀ b, x.id? = some b → b < N
  | [], _, b, he, hb => by cases hb
  | (j, v) :: r, h, b, he, hb => by
    simp only [belowH, Bool.and_eq_true, decide_eq_true_eq] at h
    simp only [blocks] at hb
    split at hb
    · rename_i e
      cases hb
      subst e
      exact ⟨h.1.1, below_spec h.1.2⟩
    · exact belowH_spec h.2 b he hb
theorem belowH_pos {N : Nat} : ∀ {H : List (Nat × HE)}, belowH N H = true → 100 ≤ N
  | [], h => Nat.le_of_ble_eq_true h
  | (_, _) :: r, h => by
    simp only [belowH, Bool.and_eq_true] at h
    exact belowH_pos h.2
theorem eqS_spec {sl : Nat → SV} {hp : Nat → Option HE} {D : Nat → Prop} : ∀ {L : List (Nat × SV)}, eqS sl hp D L → ∀ i, coeFS hp D (sl i) (slots L i)
  | [], _, i => by cases sl i <;> trivial
  | (j, v) :: r, h, i => by
    simp only [slots]
    split
    · rename_i e; subst e; exact h.1
    · exact eqS_spec h.2 i
theorem eqH_spec {hp : Nat → Option HE} {D : Nat → Prop} : ∀ {H : List (Nat × HE)}, eqH hp D H → ∀ b, coeFH hp D b (blocks H b)
  | [], _, b => trivial
  | (j, v) :: r, h, b => by
    simp only [blocks]
    split
    · rename_i e; subst e; exact h.1
    · exact eqH_spec h.2 b

theorem Weak.toF (D : Nat → Prop) {st : St} {L : List (Nat × SV)} {H : List (Nat × HE)} {N : Nat} (hS : eqS st.sl st.hp D L) (hH : eqH st.hp D H) (h1 : belowS N L = true) (h2 : belowH N H = true) : Weak gl st (mk L H N) := by
  intro E ρ imm a w _ h
  have hf := h.freeze D (A' := fun b => b < st.nx) (fun _ h => h) (eqS_spec hS) (eqH_spec hH)
  refine ⟨ρ, _, { hf with wf := ⟨fun i x hx b hb => ⟨belowS_spec h1 i x hx b hb, (hf.wf.ids i x hx b hb).2⟩, fun b he hb => ⟨(belowH_spec h2 b he hb).1, fun x hx c hc => ⟨(belowH_spec h2 b he hb).2 x hx c hc, ((hf.wf.idh b he hb).2 x hx c hc).2⟩⟩⟩, pin := fun b c hc => ⟨(hf.pin b c hc).1, Nat.lt_of_lt_of_le (hf.pin b c hc).1 (belowH_pos h2), (hf.pin b c hc).2.2⟩, pinr := fun c hc => ⟨Nat.lt_of_lt_of_le (by omega : 0 < 100) (belowH_pos h2), (hf.pinr c hc).2⟩ }⟩

theorem coeF.refl {hp : Nat → Option HE} {D : Nat → Prop} (cs : List AV) : F2 (coeF hp D) cs cs := F2.of_get rfl fun j x u h1 h2 => .inl (by rw [h1] at h2; cases h2; rfl)
theorem coeFS.refl {hp : Nat → Option HE} {D : Nat → Prop} (s : SV) : coeFS hp D s s := by
  cases s with
  | top => trivial
  | c ag cs => exact ⟨rfl, coeF.refl cs⟩
  | tup xs => exact F2.of_get rfl fun j x u h1 h2 => by rw [h1] at h2; cases h2; exact ⟨rfl, coeF.refl _⟩
theorem eqS0.eqS {sl : Nat → SV} {hp : Nat → Option HE} {D : Nat → Prop} : ∀ {L : List (Nat × SV)}, eqS0 sl L → eqS sl hp D L
  | [], _ => trivial
  | (i, v) :: r, h => ⟨by rw [h.1]; exact coeFS.refl v, eqS0.eqS h.2⟩
theorem eqH0.eqH {hp : Nat → Option HE} : ∀ {H : List (Nat × HE)}, eqH0 hp H → eqH hp (fun _ => False) H
  | [], _ => trivial
  | (b, v) :: r, h => ⟨by
      cases v with
      | box cs => exact ⟨fun h => h, cs, h.1, coeF.refl cs⟩
      | row k xs => exact ⟨fun h => h, h.1⟩
      | keys ds ks => exact ⟨fun h => h, h.1⟩, eqH0.eqH h.2⟩
/-- a state, as the list of what is still needed of it -/
theorem Weak.to {st : St} {L : List (Nat × SV)} {H : List (Nat × HE)} {N : Nat} (hS : eqS0 st.sl L) (hH : eqH0 st.hp H) (h1 : belowS N L = true) (h2 : belowH N H = true) : Weak gl st (mk L H N) :=
  .toF _ hS.eqS hH.eqH h1 h2

/-- a loop whose states are numbered by α -/
theorem W_loop {α : Type} (p : α → Prop) (I : α → St) (μ : α → Nat) {b : ACode} {st : St} {K : Ex → St → Prop} (x0 : α) (h0 : p x0) (hw : Weak gl st (I x0))
    (hs : ∀ x, p x → W P gl b (I x) (thenK (fun st' => ∃ y, p y ∧ μ y < μ x ∧ Weak gl st' (I y)) K)) : LoopW gl (W P gl b) st K := by
  intro X hX
  have claim : ∀ (m : Nat) (x : α), μ x = m → p x → W P gl b (I x) (thenK X K) := by
    intro m
    induction m using Nat.strongRecOn with
    | _ m ih =>
      intro x hm hp
      refine W_mono b _ _ _ (fun e st' hh => ?_) (hs x hp)
      cases e with
      | normal =>
        obtain ⟨y, h1, h2, h3⟩ := hh
        exact hX st' (I y) h3 (ih (μ y) (by omega) y rfl h1)
      | exit i => exact hh
      | ret => exact hh
  exact hX st (I x0) hw (claim _ x0 rfl h0)
/-- one round of a loop -/
theorem W_round {b : ACode} {st : St} {K : Ex → St → Prop} (h : W P gl b st (thenK (fun s => LoopW gl (W P gl b) s K) K)) : LoopW gl (W P gl b) st K := fun X hX =>
  hX st st (.refl st) (W_mono b _ _ _ (fun e st' hh => by
    cases e with
    | normal => exact hh X hX
    | exit i => exact hh
    | ret => exact hh) h)
/-- .. the state trimmed first -/
theorem W_roundW {b : ACode} {st st1 : St} {K : Ex → St → Prop} (hw : Weak gl st st1) (h : W P gl b st1 (thenK (fun s => LoopW gl (W P gl b) s K) K)) : LoopW gl (W P gl b) st K := fun X hX =>
  hX st st1 hw (W_mono b _ _ _ (fun e st' hh => by
    cases e with
    | normal => exact hh X hX
    | exit i => exact hh
    | ret => exact hh) h)
end Go.Proofs.YtlbafapmhjfobaaGreatDoor
namespace Go.Proofs.YtlbafapmhjfobaaGreatDoor
variable {P : Program} {gl : Nat → Option (List AV)}

/-- behind a function: it hands back res, and the box that it was handed has become cs' -/
def retBox (P : Program) (rs : List ResultVar) (res : SV) (cs' : List AV) : Ex → St → Prop
  | .exit _, _ => False
  | _, st => match resMany P st rs with
    | some xs => match st.hp 0 with
      | some (.box cs) => F2 (coeF st.hp (fun x => x ≠ 0)) cs cs' ∧ coeFS st.hp (fun x => x ≠ 0) (resSV xs) res
      | _ => False
    | none => False

theorem spec_box {f : Nat} {fn : Func} {body : Code} {ac : ACode} {fz : List Nat} {args : List (Bool × List AV)} {res : SV} {cs cs' : List AV} (hf : P.funcs[f]? = some fn) (hb : fn.body = some body) (hen : EntersP P f) (hfol : P.follows .mixedOrders = true)
    (hc : comp P fn.ntmps fz body = some ac) (hnt : args.length ≤ fn.ntmps) (hok : ∀ p ∈ args, ∀ x ∈ p.2, okC (fun b => b < 1) (st0 (some (.box cs)) args).hp x)
    (hid : idFree cs) (hid' : idFree cs') (hidr : idFree res.cells) (hW : W P gl ac (st0 (some (.box cs)) args) (retBox P fn.results.toList res cs')) : Spec P gl f (some (.box cs)) args res (some (.box cs')) := by
  refine ⟨hen, fun w imm c us himm hgl hh hargs => ?_⟩
  have hreal := real0 none (fun b => match b with | 0 => some c | _ + 1 => none) (f := f) hnt hok (fun he h => by cases h; exact fun x hx => .none_id (hid x hx)) himm hgl hh hargs (fun b d h => by cases b <;> simp at h; exact ⟨rfl, h.symm, fun k xs e => by cases e⟩) (fun _ h => by cases h)
  refine callsIn_of_wp_marks hf hb trivial (wpIn_mono (W_sound hfol body _ _ 0 ac _ _ _ _ _ _ rfl wideF_wide (.inr ⟨rfl, fun _ _ _ => trivial, rfl, rfl⟩) hc hreal hW) fun e a' w' hp => ?_)
  have fin : ∀ (w' : World) (st : St) (ρ : Nat → Cn) (imm' : Nat → Prop), (match resMany P st fn.results.toList with | some xs => (match st.hp 0 with | some (.box cs) => F2 (coeF st.hp (fun x => x ≠ 0)) cs cs' ∧ coeFS st.hp (fun x => x ≠ 0) (resSV xs) res | _ => False) | none => False) →
      Real ⟨fn.ntmps, w, fun x => ∃ he, (some (HE.box cs) : Option HE) = some he ∧ he.uses c ∧ x = c.blk, imm, gl, [], false, none, (fun b => match b with | 0 => some c | _ + 1 => none), fun _ _ _ => True, trueJ_stable⟩ (fun b => b < st.nx) st.sl st.hp ρ imm' { a' with defers := [] } w' →
      ∃ v, (results fn a'.tmps).run P w' = .ok v w' ∧ (∃ v' imm' c', Ending.returned v = .returned v' ∧ RS w' imm' (fun _ => c') res v' ∧ (∀ x, imm x → imm' x) ∧
        (∀ x, imm' x → x < w'.heap.size ∧ (imm x ∨ w.heap.size ≤ x ∨ ((some (HE.box cs') : Option HE) = none ∧ ∃ he, (some (HE.box cs) : Option HE) = some he ∧ he.uses c ∧ x = c.blk))) ∧
        (∀ he', (some (HE.box cs') : Option HE) = some he' → RH w' imm' (fun _ => c') c' he' ∧ (∀ he, (some (HE.box cs) : Option HE) = some he → (he'.uses c' → he.uses c ∧ c'.blk = c.blk) ∧ (sameKind he he' → c' = c)) ∧ ((some (HE.box cs) : Option HE) = none → he'.uses c' → w.heap.size ≤ c'.blk) ∧ (he'.uses c' → c'.blk < w'.heap.size ∧ ¬ imm' c'.blk)) ∧
        Ext (fun x => ∃ he, (some (HE.box cs) : Option HE) = some he ∧ he.uses c ∧ x = c.blk) w w') := by
    intro w' st ρ imm' hm hr
    split at hm
    · rename_i xs hxs
      split at hm
      · rename_i cs1 h0
        obtain ⟨hbox, hcoe⟩ := hm
        obtain ⟨v, hv, hv2⟩ := results_run hr hxs
        have hρ : ρ 0 = c := (hr.pin 0 c rfl).2.2.1
        have hfr := hr.freeze (fun x => x ≠ 0) (A' := fun b => b < st.nx) (sl' := fun _ => .top) (hp' := fun x => if x = 0 then some (.box cs') else none) (fun _ h => h) (fun i => by cases st.sl i <;> trivial) (fun x => by
          by_cases hx : x = 0
          · subst hx
            simp only [if_true]
            exact ⟨fun h => h rfl, cs1, h0, hbox⟩
          · simp only [hx, if_false]; trivial)
        have hpb : (fun x => if x = 0 then some (.box cs') else none : Nat → Option HE) 0 = some (.box cs') := by simp
        refine ⟨v, hv, v, _, c, rfl, (hcoe.RS hr hv2).cellwise (fun x hx u hra => hra.idfree (hidr x hx)), fun x hx => hfr.imm0 x hx, fun x hx => ⟨hfr.immlt x hx, ?_⟩, ?_, hr.ext⟩
        · rcases hfr.immF x hx with h1 | h1 | ⟨he, h1, h2, h3⟩
          · exact .inl h1
          · exact .inr (.inl h1)
          · exfalso
            have := (hfr.used 0 _ hpb trivial).2.1
            rw [hρ] at this
            exact this (h3 ▸ hx)
        · intro he' hhe
          cases hhe
          obtain ⟨us, el, g1, g2⟩ := hfr.heap 0 _ hpb
          have hus := hfr.used 0 _ hpb trivial
          rw [hρ] at g1 hus
          exact ⟨⟨us, el, g1, g2.idfree hid'⟩, fun he hh => ⟨fun _ => ⟨by cases hh; trivial, rfl⟩, fun _ => rfl⟩, (fun h => by cases h), fun _ => ⟨hus.1, hus.2.1⟩⟩
      · exact hm.elim
    · exact hm.elim
  cases e with
  | normal => obtain ⟨st, ρ, imm', hk, hr⟩ := hp; obtain ⟨ds, he, _⟩ := hr.defs; exact Real.leave rfl rfl (fun _ _ _ => trivial) ds hr (by simpa using he) fun w'' h'' => fin w'' st ρ imm' hk h''
  | ret => obtain ⟨st, ρ, imm', hk, hr⟩ := hp; obtain ⟨ds, he, _⟩ := hr.defs; exact Real.leave rfl rfl (fun _ _ _ => trivial) ds hr (by simpa using he) fun w'' h'' => fin w'' st ρ imm' hk h''
  | exit id => obtain ⟨st, ρ, imm', hk, hr⟩ := hp; exact hk.elim
  | goto => exact hp.elim
  | panic => exact hp.elim
  | outgrown => exact hp.elim

theorem spec_box' {f : Nat} {fn : Func} {ac : ACode} {fz : List Nat} {args : List (Bool × List AV)} {res : SV} {cs cs' : List AV} {rs : List ResultVar} {nt : Nat} (hc : fn.body.bind (comp P fn.ntmps fz) = some ac) (hf : P.funcs[f]? = some fn)
    (hen : EntersP P f) (hfol : P.follows .mixedOrders = true) (hn : fn.ntmps = nt) (hrs : fn.results = rs.toArray)
    (hok : ∀ p ∈ args, ∀ x ∈ p.2, okC (fun b => b < 1) (st0 (some (.box cs)) args).hp x) (hle : args.length ≤ nt) (hid : idFree cs) (hid' : idFree cs') (hidr : idFree res.cells)
    (hW : W P gl ac (st0 (some (.box cs)) args) (retBox P rs res cs')) : Spec P gl f (some (.box cs)) args res (some (.box cs')) := by
  obtain ⟨body, hb, hc⟩ := Option.bind_eq_some_iff.1 hc
  exact spec_box hf hb hen hfol hc (by omega) hok hid hid' hidr (by rw [hrs]; exact hW)

/-- the box's pointer, handed over -/
theorem okC.ptr0 {cs : List AV} {args : List (Bool × List AV)} {off : Nat} : okC (fun b => b < 1) (st0 (some (.box cs)) args).hp (.ptr 0 off) := by
  intro b hb
  simp only [AV.id?, Option.some.injEq] at hb
  subst hb
  exact ⟨Nat.zero_lt_one, fun k xs h => by cases h⟩

/-- behind a function that was handed a row of n elements: it hands back that row, or its first elements -/
def retTurn (P : Program) (rs : List ResultVar) (n k : Nat) (xs' : List (List AV)) : Ex → St → Prop
  | .exit _, _ => False
  | _, st => ∃ ys x, resMany P st rs = some [(false, [x])] ∧ st.hp 0 = some (.row k ys) ∧ ys.length = n ∧ ((x = .own 0 n ∧ xs' = ys) ∨ ∃ hi, x = .part 0 n 0 hi ∧ hi < n ∧ xs' = ys.take hi)

theorem spec_turn {f : Nat} {fn : Func} {body : Code} {ac : ACode} {fz : List Nat} {args : List (Bool × List AV)} {k : Nat} {xs0 xs' : List (List AV)} (hf : P.funcs[f]? = some fn) (hb : fn.body = some body) (hen : EntersP P f) (hfol : P.follows .mixedOrders = true)
    (hc : comp P fn.ntmps fz body = some ac) (hnt : args.length ≤ fn.ntmps) (hok : ∀ p ∈ args, ∀ x ∈ p.2, okC (fun b => b < 1) (st0 (some (.row k xs0)) args).hp x)
    (hnr : noRng ac = true) (hW : W P gl ac (st0 (some (.row k xs0)) args) (retTurn P fn.results.toList xs0.length k xs')) : Spec P gl f (some (.row k xs0)) args (.c false [.own 0 xs'.length]) (some (.row k xs')) := by
  refine ⟨hen, fun w imm c us himm hgl hh hargs => ?_⟩
  have hreal := real0 (some c) (fun _ => none) (f := f) hnt hok (fun he h => by cases h; simp [HE.cells]) himm hgl hh hargs (fun _ _ h => by cases h) (fun _ h => by cases h; rfl)
  have hclen : c.len = xs0.length := (hh _ rfl).1.1
  refine callsIn_of_wp_marks hf hb trivial (wpIn_mono (W_sound hfol body _ _ 0 ac _ _ _ _ _ _ rfl wideF_wide (.inl hnr) hc hreal hW) fun e a' w' hp => ?_)
  have fin : ∀ (w' : World) (st : St) (ρ : Nat → Cn) (imm' : Nat → Prop), (∃ ys x, resMany P st fn.results.toList = some [(false, [x])] ∧ st.hp 0 = some (.row k ys) ∧ ys.length = xs0.length ∧ ((x = .own 0 xs0.length ∧ xs' = ys) ∨ ∃ hi, x = .part 0 xs0.length 0 hi ∧ hi < xs0.length ∧ xs' = ys.take hi)) →
      Real ⟨fn.ntmps, w, fun x => ∃ he, (some (HE.row k xs0) : Option HE) = some he ∧ he.uses c ∧ x = c.blk, imm, gl, [], false, some c, (fun _ => none), fun _ _ _ => True, trueJ_stable⟩ (fun b => b < st.nx) st.sl st.hp ρ imm' { a' with defers := [] } w' →
      ∃ v, (results fn a'.tmps).run P w' = .ok v w' ∧ (∃ v' imm' c', Ending.returned v = .returned v' ∧ RS w' imm' (fun _ => c') (.c false [.own 0 xs'.length]) v' ∧ (∀ x, imm x → imm' x) ∧
        (∀ x, imm' x → x < w'.heap.size ∧ (imm x ∨ w.heap.size ≤ x ∨ ((some (HE.row k xs') : Option HE) = none ∧ ∃ he, (some (HE.row k xs0) : Option HE) = some he ∧ he.uses c ∧ x = c.blk))) ∧
        (∀ he', (some (HE.row k xs') : Option HE) = some he' → RH w' imm' (fun _ => c') c' he' ∧ (∀ he, (some (HE.row k xs0) : Option HE) = some he → (he'.uses c' → he.uses c ∧ c'.blk = c.blk) ∧ (sameKind he he' → c' = c)) ∧ ((some (HE.row k xs0) : Option HE) = none → he'.uses c' → w.heap.size ≤ c'.blk) ∧ (he'.uses c' → c'.blk < w'.heap.size ∧ ¬ imm' c'.blk)) ∧
        Ext (fun x => ∃ he, (some (HE.row k xs0) : Option HE) = some he ∧ he.uses c ∧ x = c.blk) w w') := by
    rintro w' st ρ imm' ⟨ys, x, hxs, h0, hyl, hx⟩ hr
    obtain ⟨v, hv, hv2⟩ := results_run hr hxs
    have hρ : ρ 0 = c := ((hr.pinr c rfl).2 k ys h0).2 (by omega)
    have hfr := hr.freeze (fun x => x ≠ 0) (A' := fun b => b < st.nx) (sl' := fun _ => .top) (hp' := fun x => if x = 0 then some (.row k ys) else none) (fun _ h => h) (fun i => by cases st.sl i <;> trivial) (fun x => by
      by_cases hx : x = 0
      · subst hx
        simp only [if_true]
        exact ⟨fun h => h rfl, h0⟩
      · simp only [hx, if_false]; trivial)
    have hpb : (fun x => if x = 0 then some (.row k ys) else none : Nat → Option HE) 0 = some (.row k ys) := by simp
    have hrow := hfr.heap 0 _ hpb
    have huse := hfr.used 0 _ hpb
    rw [hρ] at hrow huse
    have hxv : RA w' imm' ρ x v := RS.c1 (by simpa [resSV] using hv2)
    obtain ⟨f1, f2, f3, f4⟩ := hrow
    have hlow : ∀ x, frozen st.hp ρ (fun x => x ≠ 0) imm' x → x < w'.heap.size ∧ (imm x ∨ w.heap.size ≤ x ∨ ((some (HE.row k xs') : Option HE) = none ∧ ∃ he, (some (HE.row k xs0) : Option HE) = some he ∧ he.uses c ∧ x = c.blk)) := by
      intro x hx
      refine ⟨hfr.immlt x hx, ?_⟩
      rcases hfr.immF x hx with h1 | h1 | ⟨he, h1, h2, h3⟩
      · exact .inl h1
      · exact .inr (.inl h1)
      · exfalso
        cases h1
        exact (huse (by simpa [HE.uses] using h2)).2.1 (h3 ▸ hx)
    rcases hx with ⟨rfl, rfl⟩ | ⟨hi, rfl, hlt, rfl⟩
    · refine ⟨v, hv, v, _, c, rfl, ?_, fun x hx => hfr.imm0 x hx, hlow, ?_, hr.ext⟩
      · refine .mk1 ⟨hxv.one, fun _ => ?_⟩
        have := hxv.2 (by rw [hρ]; omega)
        rw [hρ] at this; exact this
      · intro he' hhe
        cases hhe
        exact ⟨⟨f1, f2, f3, f4⟩, fun he hh => ⟨fun hu => ⟨by cases hh; simpa [HE.uses] using hu, rfl⟩, fun _ => rfl⟩, (fun h => by cases h), fun hu => ⟨(huse hu).1, (huse hu).2.1⟩⟩
    · have hval := hxv.2 (by rw [hρ]; omega)
      rw [hρ, f2] at hval
      have hlt' : (ys.take hi).length = hi := by simp; omega
      refine ⟨v, hv, v, _, ⟨c.blk, v, hi, k⟩, rfl, .mk1 ⟨hxv.one, fun _ => rfl⟩, fun x hx => hfr.imm0 x hx, hlow, ?_, hr.ext⟩
      intro he' hhe
      cases hhe
      have hvu : (HE.row k (ys.take hi)).uses ⟨c.blk, v, hi, k⟩ → (HE.row k ys).uses c := by
        intro hu hcn
        simp only [HE.uses] at hu
        rw [hcn] at hval
        exact hu hval
      refine ⟨⟨hlt'.symm, rfl, fun x hx => f3 x (List.mem_of_mem_take hx), ?_⟩, fun he hh => ⟨fun hu => ⟨by cases hh; simpa [HE.uses] using hvu hu, rfl⟩, fun hsk => ?_⟩, (fun h => by cases h), fun hu => ⟨(huse (hvu hu)).1, (huse (hvu hu)).2.1⟩⟩
      · rcases f4 with ⟨f4, f5⟩ | ⟨cap, us, rest, el, f5, f6, f7, f8, f9⟩
        · subst f4; simp at hyl; omega
        · have hul := f9.length
          rw [row_len f3] at hul
          have hik : hi * k ≤ us.length := by rw [← hul]; exact Nat.mul_le_mul_right _ (by omega)
          rw [f5] at hval
          refine .inr ⟨cap, us.take (hi * k), us.drop (hi * k) ++ rest, el, ?_, by omega, by simp; omega, ?_, ?_⟩
          · rw [hlt']
            show v = _
            rw [hval]
            simp [subV]
          · rw [← List.append_assoc, List.take_append_drop]; exact f8
          · rw [flat_take f3]; exact F2.take _ f9
      · cases hh
        have : xs0.length = (ys.take hi).length := hsk.2
        omega
  cases e with
  | normal => obtain ⟨st, ρ, imm', hk, hr⟩ := hp; obtain ⟨ds, he, _⟩ := hr.defs; exact Real.leave rfl rfl (fun _ _ _ => trivial) ds hr (by simpa using he) fun w'' h'' => fin w'' st ρ imm' hk h''
  | ret => obtain ⟨st, ρ, imm', hk, hr⟩ := hp; obtain ⟨ds, he, _⟩ := hr.defs; exact Real.leave rfl rfl (fun _ _ _ => trivial) ds hr (by simpa using he) fun w'' h'' => fin w'' st ρ imm' hk h''
  | exit id => obtain ⟨st, ρ, imm', hk, hr⟩ := hp; exact hk.elim
  | goto => exact hp.elim
  | panic => exact hp.elim
  | outgrown => exact hp.elim
theorem spec_turn' {f : Nat} {fn : Func} {ac : ACode} {fz : List Nat} {args : List (Bool × List AV)} {k : Nat} {xs0 xs' : List (List AV)} {rs : List ResultVar} {nt : Nat} (hc : fn.body.bind (comp P fn.ntmps fz) = some ac) (hf : P.funcs[f]? = some fn)
    (hen : EntersP P f) (hfol : P.follows .mixedOrders = true) (hn : fn.ntmps = nt) (hrs : fn.results = rs.toArray)
    (hok : ∀ p ∈ args, ∀ x ∈ p.2, okC (fun b => b < 1) (st0 (some (.row k xs0)) args).hp x) (hle : args.length ≤ nt) (hnr : noRng ac = true)
    (hW : W P gl ac (st0 (some (.row k xs0)) args) (retTurn P rs xs0.length k xs')) : Spec P gl f (some (.row k xs0)) args (.c false [.own 0 xs'.length]) (some (.row k xs')) := by
  obtain ⟨body, hb, hc⟩ := Option.bind_eq_some_iff.1 hc
  exact spec_turn hf hb hen hfol hc (by omega) hok hnr (by rw [hrs]; exact hW)
end Go.Proofs.YtlbafapmhjfobaaGreatDoor
namespace Go.Proofs.YtlbafapmhjfobaaGreatDoor
variable {P : Program} {gl : Nat → Option (List AV)} {hv : Nat → Option HE} {j f : Nat} {vs : List SV} {K : SV → List (Nat × Option HE) → Prop}

abbrev svs (as : List (Bool × List AV)) : List SV := as.map fun p => SV.c p.1 p.2
def persB (as : List (Bool × List AV)) : Bool := as.all fun p => p.2.all AV.pers
def idFreeB (cs : List AV) : Bool := cs.all fun x => x.id?.isNone
theorem idFreeB_spec {cs : List AV} (h : idFreeB cs = true) : idFree cs := fun x hx => by simpa using List.all_eq_true.1 h x hx
theorem pers_noid {x : AV} (h : x.pers = true) : x.id? = none := by cases x <;> simp_all [AV.pers, AV.id?]
theorem pers_noown {x : AV} (h : x.pers = true) : isOwn x = false := by cases x <;> simp_all [AV.pers, isOwn]

theorem coe_self {as : List (Bool × List AV)} (h : persB as = true) : F2 (coeV hv) (svs as) as := by
  induction as with
  | nil => trivial
  | cons p as ih =>
    simp only [persB, List.all_cons, Bool.and_eq_true] at h
    refine ⟨⟨p.2, rfl, F2.of_get rfl fun j x u h1 h2 => ?_⟩, ih h.2⟩
    rw [h1] at h2; cases h2
    exact .inl ⟨rfl, List.all_eq_true.1 h.1 x (List.mem_of_getElem? h1)⟩
theorem noown_self {as : List (Bool × List AV)} (h : persB as = true) : ∀ v ∈ svs as, ∀ x ∈ v.cells, isOwn x = false := by
  intro v hv x hx
  obtain ⟨p, hp, rfl⟩ := List.mem_map.1 hv
  exact pers_noown (List.all_eq_true.1 (List.all_eq_true.1 h p hp) x hx)

/-- a call that hands over and hands back what leads nowhere of ours -/
theorem call_pure {as : List (Bool × List AV)} {res : SV} (hs : Spec P gl f none as res none) (hvs : vs = svs as) (hp : persB as = true) (hi : idFreeB res.cells = true) (hk : K res []) : CallS P gl hv j f vs K := by
  subst hvs
  exact .pure as res (coe_self hp) hs (.inl (noown_self hp)) (idFreeB_spec hi) hk
/-- .. arguments that are looked at otherwise; none of them is a row of ours -/
theorem call_coe {as : List (Bool × List AV)} {res : SV} (hs : Spec P gl f none as res none) (hc : F2 (coeV hv) vs as) (hn : ∀ v ∈ vs, ∀ x ∈ v.cells, isOwn x = false) (hi : idFreeB res.cells = true) (hk : K res []) : CallS P gl hv j f vs K :=
  .pure as res hc hs (.inl hn) (idFreeB_spec hi) hk
/-- .. rows of ours are lent; the result leads nowhere -/
theorem call_lend {as : List (Bool × List AV)} {res : SV} (hs : Spec P gl f none as res none) (hc : F2 (coeV hv) vs as) (hi : ∀ y ∈ res.cells, ∃ u, y = AV.v u) (hk : K res []) : CallS P gl hv j f vs K :=
  .pure as res hc hs (.inr hi) (fun x hx => by obtain ⟨u, rfl⟩ := hi x hx; rfl) hk
/-- .. the result is a new block of ours -/
theorem call_fresh {as : List (Bool × List AV)} {res : SV} {he : HE} (hs : Spec P gl f none as res (some he)) (hvs : vs = svs as) (hp : persB as = true) (hi : idFreeB he.cells = true)
    (hl : ∀ x ∈ res.cells, x.id? = none ∨ ∃ k xs, he = .row k xs ∧ x = .own 0 xs.length) (hk : K (res.ren j) [(j, some he)]) : CallS P gl hv j f vs K := by
  subst hvs
  exact .fresh as res he (coe_self hp) hs (noown_self hp) (idFreeB_spec hi) hl hk
/-- .. a box of ours is handed over to be written -/
theorem call_box (b : Nat) {as : List (Bool × List AV)} {res : SV} {cs cs' : List AV} (hs : Spec P gl f (some (.box cs)) as res (some (.box cs'))) (hb : hv b = some (.box cs)) (hvs : vs = as.map fun p => (SV.c p.1 p.2).ren b)
    (hp : ∀ p ∈ as, ∀ x ∈ p.2, x.pers = true ∨ ∃ o, x = .ptr 0 o) (hin : ∃ p ∈ as, ∃ o, AV.ptr 0 o ∈ p.2) (hi : idFreeB cs = true) (hi' : idFreeB cs' = true) (hr : idFreeB res.cells = true) (hk : K res [(b, some (.box cs'))]) : CallS P gl hv j f vs K := by
  subst hvs
  refine .inout b (.box cs) (.box cs') as res hb (idFreeB_spec hi) (idFreeB_spec hi') trivial ?_ ?_ hs (idFreeB_spec hr) hk
  · obtain ⟨p, hp, o, ho⟩ := hin
    exact ⟨_, List.mem_map.2 ⟨p, hp, rfl⟩, .ptr b o, List.mem_map.2 ⟨.ptr 0 o, ho, rfl⟩, rfl⟩
  · clear hin hs
    induction as with
    | nil => trivial
    | cons p as ih =>
      refine ⟨⟨p.2.map (ren b), rfl, ?_⟩, ih (fun q hq => hp q (by simp [hq]))⟩
      refine F2.of_get (by simp) fun j x u h1 h2 => ?_
      rw [List.getElem?_map, h2] at h1
      simp only [Option.map_some, Option.some.injEq] at h1
      subst h1
      rcases hp p (by simp) u (List.mem_of_getElem? h2) with h | ⟨o, rfl⟩
      · have : ren b u = u := by cases u <;> simp_all [AV.pers, ren]
        rw [this]
        exact .inl ⟨rfl, h⟩
      · exact .inr ⟨rfl, rfl, fun n hn => by cases hn⟩

/-- a hand-over, cell by cell -/
theorem coeA.self {x : AV} (h : x.pers = true) : coeA hv x x := .inl ⟨rfl, h⟩
theorem coeA.nil {k : Nat} : coeA hv .nil (.li k []) := .inr (.inl ⟨k, rfl, rfl⟩)
theorem coeA.own {b n k : Nat} {xs : List (List AV)} (h : hv b = some (.row k xs)) (hn : n = xs.length) : coeA hv (.own b n) (.li k xs) := .inr (.inr ⟨b, n, k, xs, rfl, rfl, h, hn⟩)
theorem coeV.one {x y : AV} (h : coeA hv x y) : coeV hv (.c false [x]) (false, [y]) := ⟨[x], rfl, h, trivial⟩
theorem coeV.self {p : Bool × List AV} (h : p.2.all AV.pers = true) : coeV hv (.c p.1 p.2) p := (coe_self (as := [p]) (by simp [persB, h])).1

theorem retPure_of {rs : List ResultVar} {res : SV} {xs : List (Bool × List AV)} {e : Ex} {st : St} (he : ∀ i, e ≠ .exit i) (h : resMany P st rs = some xs) (hx : resSV xs = res) : retPure P rs res e st := by
  subst hx
  cases e with
  | exit i => exact absurd rfl (he i)
  | _ => simp only [retPure, h]; exact coeFS.refl _
theorem retPure_ret {rs : List ResultVar} {res : SV} {xs : List (Bool × List AV)} {st : St} (h : resMany P st rs = some xs) (hx : resSV xs = res) : retPure P rs res .ret st := retPure_of (fun i h => by cases h) h hx
theorem retPure_end {rs : List ResultVar} {res : SV} {xs : List (Bool × List AV)} {st : St} (h : resMany P st rs = some xs) (hx : resSV xs = res) : retPure P rs res .normal st := retPure_of (fun i h => by cases h) h hx
theorem retPure_fr {rs : List ResultVar} {res : SV} {xs : List (Bool × List AV)} {st : St} (h : resMany P st rs = some xs) (hx : coeFS st.hp (fun _ => True) (resSV xs) res) : retPure P rs res .ret st := by
  simp only [retPure, h]; exact hx
theorem retFresh_ret {rs : List ResultVar} {res : SV} {he : HE} {xs : List (Bool × List AV)} {st : St} (b : Nat) (h : resMany P st rs = some xs) (hb : st.hp b = some he) (hx : coeFS st.hp (fun x => x ≠ b) (resSV xs) (res.ren b)) : retFresh P rs res he .ret st := by
  simp only [retFresh, h]; exact ⟨b, hb, hx⟩
theorem retBox_of {rs : List ResultVar} {res : SV} {cs cs' : List AV} {xs : List (Bool × List AV)} {e : Ex} {st : St} (he : ∀ i, e ≠ .exit i) (h : resMany P st rs = some xs) (hx : resSV xs = res) (hb : st.hp 0 = some (.box cs)) (hc : F2 (coeF st.hp (fun x => x ≠ 0)) cs cs') : retBox P rs res cs' e st := by
  subst hx
  cases e with
  | exit i => exact absurd rfl (he i)
  | _ => simp only [retBox, h, hb]; exact ⟨hc, coeFS.refl _⟩
theorem retBox_ret {rs : List ResultVar} {res : SV} {cs' : List AV} {xs : List (Bool × List AV)} {st : St} (h : resMany P st rs = some xs) (hx : resSV xs = res) (hb : st.hp 0 = some (.box cs')) : retBox P rs res cs' .ret st := retBox_of (fun i h => by cases h) h hx hb (coeF.refl _)
theorem retBox_end {rs : List ResultVar} {res : SV} {cs' : List AV} {xs : List (Bool × List AV)} {st : St} (h : resMany P st rs = some xs) (hx : resSV xs = res) (hb : st.hp 0 = some (.box cs')) : retBox P rs res cs' .normal st := retBox_of (fun i h => by cases h) h hx hb (coeF.refl _)

/-- a loop over an iterator -/
theorem rng_rule {x : Opd} {p : Nat} {nr : Bool} {wa wb : St → (Ex → St → Prop) → Prop} {st : St} {K : Ex → St → Prop} (f : Nat) (caps : List AV) (items : List (Bool × List AV)) (R : Nat → Prop) (S : Nat → St) (hi : IterSpec P gl f caps items) (hnr : nr = true)
    (hx : ev gl (S 0).sl x = .c false [.fn f [] caps]) (h0 : R 0) (hw : Weak gl st (S 0))
    (hr : ∀ k it, items[k]? = some it → R k → wa ⟨putS (strip (S k).hp (S k).sl) (some p) (.c it.1 it.2), (S k).hp, (S k).nx⟩ (asgK fun st => wb st (roundK gl K (R (k + 1)) (S (k + 1)) (strip (S k).hp (S k).sl)))) (he : R items.length → K .normal (S items.length)) : RngW P gl x p nr wa wb st K :=
  ⟨hnr, f, caps, items, R, S, hx, hi, ⟨h0, hw⟩, hr, he⟩

theorem ren_pers {b : Nat} {x : AV} (h : x.pers = true) : ren b x = x := by cases x <;> simp_all [AV.pers, ren]
/-- a row of ours is handed over to be written -/
theorem call_row (b : Nat) {as : List (Bool × List AV)} {res : SV} {k : Nat} {xs xs' : List (List AV)} (hs : Spec P gl f (some (.row k xs)) as res (some (.row k xs'))) (hl : xs.length = xs'.length) (hb : hv b = some (.row k xs)) (hvs : vs = as.map fun p => (SV.c p.1 p.2).ren b)
    (hp : ∀ p ∈ as, ∀ x ∈ p.2, x.pers = true ∨ x = .own 0 xs.length) (hin : ∃ p ∈ as, AV.own 0 xs.length ∈ p.2) (hr : idFreeB res.cells = true) (hk : K res [(b, some (.row k xs'))]) : CallS P gl hv j f vs K := by
  subst hvs
  refine .inout b (.row k xs) (.row k xs') as res hb (by intro x hx; simp [HE.cells] at hx) (by intro x hx; simp [HE.cells] at hx) ⟨rfl, hl⟩ ?_ ?_ hs (idFreeB_spec hr) hk
  · obtain ⟨p, hp, ho⟩ := hin
    exact ⟨_, List.mem_map.2 ⟨p, hp, rfl⟩, .own b xs.length, List.mem_map.2 ⟨_, ho, rfl⟩, rfl⟩
  · clear hin hs
    induction as with
    | nil => trivial
    | cons p as ih =>
      refine ⟨⟨p.2.map (ren b), rfl, ?_⟩, ih (fun q hq => hp q (by simp [hq]))⟩
      refine F2.of_get (by simp) fun j x u h1 h2 => ?_
      rw [List.getElem?_map, h2] at h1
      simp only [Option.map_some, Option.some.injEq] at h1
      subst h1
      rcases hp p (by simp) u (List.mem_of_getElem? h2) with h | rfl
      · rw [ren_pers h]
        exact .inl ⟨rfl, h⟩
      · exact .inr ⟨rfl, rfl, fun n hn => by cases hn; exact ⟨k, xs, rfl, rfl⟩⟩
/-- .. for good -/
theorem call_eats (b : Nat) {as : List (Bool × List AV)} {res : SV} {k : Nat} {xs : List (List AV)} (hs : Spec P gl f (some (.row k xs)) as res none) (hb : hv b = some (.row k xs)) (hvs : vs = as.map fun p => (SV.c p.1 p.2).ren b)
    (hp : ∀ p ∈ as, ∀ x ∈ p.2, x.pers = true ∨ x = .own 0 xs.length) (hin : ∃ p ∈ as, AV.own 0 xs.length ∈ p.2) (hr : idFreeB res.cells = true) (hk : K res [(b, none)]) : CallS P gl hv j f vs K := by
  subst hvs
  refine .eats b xs.length k xs as res hb rfl ?_ ?_ hs (idFreeB_spec hr) hk
  · obtain ⟨p, hp, ho⟩ := hin
    exact ⟨_, List.mem_map.2 ⟨p, hp, rfl⟩, .own b xs.length, List.mem_map.2 ⟨_, ho, rfl⟩, rfl⟩
  · clear hin hs
    induction as with
    | nil => trivial
    | cons p as ih =>
      refine ⟨⟨p.2.map (ren b), rfl, ?_⟩, ih (fun q hq => hp q (by simp [hq]))⟩
      refine F2.of_get (by simp) fun j x u h1 h2 => ?_
      rw [List.getElem?_map, h2] at h1
      simp only [Option.map_some, Option.some.injEq] at h1
      subst h1
      rcases hp p (by simp) u (List.mem_of_getElem? h2) with h | rfl
      · rw [ren_pers h]
        exact .inl ⟨rfl, h⟩
      · exact .inr ⟨rfl, rfl⟩
/-- .. and handed back, perhaps shorter -/
theorem call_turn (b : Nat) {as : List (Bool × List AV)} {res : SV} {k k' : Nat} {xs xs' : List (List AV)} (hs : Spec P gl f (some (.row k xs)) as res (some (.row k' xs'))) (hb : hv b = some (.row k xs)) (hvs : vs = as.map fun p => (SV.c p.1 p.2).ren b)
    (hp : ∀ p ∈ as, ∀ x ∈ p.2, x.pers = true ∨ x = .own 0 xs.length) (hin : ∃ p ∈ as, AV.own 0 xs.length ∈ p.2) (hl : ∀ x ∈ res.cells, x.id? = none ∨ x = .own 0 xs'.length) (hk : K (res.ren j) [(b, none), (j, some (.row k' xs'))]) : CallS P gl hv j f vs K := by
  subst hvs
  refine .turn b xs.length k xs k' xs' as res hb rfl ?_ ?_ hs hl hk
  · obtain ⟨p, hp, ho⟩ := hin
    exact ⟨_, List.mem_map.2 ⟨p, hp, rfl⟩, .own b xs.length, List.mem_map.2 ⟨_, ho, rfl⟩, rfl⟩
  · clear hin hs
    induction as with
    | nil => trivial
    | cons p as ih =>
      refine ⟨⟨p.2.map (ren b), rfl, ?_⟩, ih (fun q hq => hp q (by simp [hq]))⟩
      refine F2.of_get (by simp) fun j x u h1 h2 => ?_
      rw [List.getElem?_map, h2] at h1
      simp only [Option.map_some, Option.some.injEq] at h1
      subst h1
      rcases hp p (by simp) u (List.mem_of_getElem? h2) with h | rfl
      · rw [ren_pers h]
        exact .inl ⟨rfl, h⟩
      · exact .inr ⟨rfl, rfl⟩
theorem retTurn_own {rs : List ResultVar} {n k : Nat} {xs' ys : List (List AV)} {st : St} (h : resMany P st rs = some [(false, [.own 0 n])]) (hb : st.hp 0 = some (.row k ys)) (hl : ys.length = n) (hx : xs' = ys) : retTurn P rs n k xs' .ret st :=
  ⟨ys, _, h, hb, hl, .inl ⟨rfl, hx⟩⟩
theorem retTurn_part {rs : List ResultVar} {n k : Nat} {xs' ys : List (List AV)} {st : St} (hi : Nat) (h : resMany P st rs = some [(false, [.part 0 n 0 hi])]) (hb : st.hp 0 = some (.row k ys)) (hl : ys.length = n) (hlt : hi < n) (hx : xs' = ys.take hi) : retTurn P rs n k xs' .ret st :=
  ⟨ys, _, h, hb, hl, .inr ⟨hi, rfl, hlt, hx⟩⟩
end Go.Proofs.YtlbafapmhjfobaaGreatDoor
