/-
  TurnHulls returns true for every input, and leaves its arguments as they were: the tied card. Conditions: none beyond the row's own (the package variable turn.identity begins as the program's text lays it, which the card ties).
-/
import Derived.Test.YtlbafapmhjfobaaGreatDoorWalk
import Derived.Test.YtlbafapmhjfobaaGreatDoorRows
import Derived.ProofKit
import Derived.LaidMore
import Derived.OpenShut
import Derived.Stop.Joined
import Derived.ChangeSlices
import Derived.Deep.Onto
import Derived.Deep.Frames
import Derived.ChangeBook
import Derived.ChangeStays
import Derived.SevenTiedAt
import Derived.Test.YtlbafapmhjfobaaGreatDoorTie
import Derived.Test.YtlbafapmhjfobaaGreatDoorCards
set_option linter.unusedVariables false
set_option linter.unusedSimpArgs false
namespace Go.Proofs.YtlbafapmhjfobaaGreatDoor
set_option maxRecDepth 100000
open Go.ChangeShapes Go.WideShapes Go.ChangeAt Go.WideElems Go.RowKit
theorem own0 : ownKnob Tryz.prog.godebug = none := by kernel_rfl
theorem gId : Tryz.prog.globalNamed "collet/turn.identity" = some 0 := by kernel_rfl
theorem laidOut0 : laidOutB Tryz.prog = true := by kernel_rfl
/-- The door's own heap meets the condition. -/
theorem door_met (os : Os) (args : Array Value) : laidMetH Tryz.prog [("collet/turn.identity", Rows.laid_collet_turn_identity)] ((World.doorLaid Tryz.prog 400 os).forCall (fun _ _ => 0) ⟨#[], args, []⟩).memory :=
  laidMetH_of_parts3 (fuel := 8) (laidMet_of_run' 8 (by kernel_rfl) (by kernel_rfl)) (by kernel_rfl) (by kernel_rfl)
theorem ics_flat (xs : List Int) : (ics xs).flatten = xs.map fun x => .i x := by
  induction xs with
  | nil => rfl
  | cons x xs ih => simp only [ics, List.map_cons, List.flatten_cons, List.singleton_append] at ih ⊢; rw [ih]
theorem cell_lt {W : World} {b o : Nat} {v : Value} (h : W.cell? ⟨b, o, none⟩ = some v) : b < W.heap.size := by
  apply Classical.byContradiction
  intro hn
  have : W.heap[b]? = none := Array.getElem?_eq_none (by omega)
  simp [World.cell?, this] at h
/-- a slice of int that was handed over, in abstract values -/
theorem ints_PR {H : Type} {enc : TypeId × Value → H} {P : Program} {W : World} {base : Nat} {t e : TypeId} {v : Value} {d : DataW H} {p : List MemPlace} (ht : P.underlying t = some (.slice e)) (he : P.underlying e = some (.int .i64)) (hc : P.cellsOf e = 1)
    (hok : Value.okWide P W .any base t v) (hd : DataW.Trod enc P W 0 (fun _ => true) true t v d p) : ∃ xs : List Int, PR W (fun b => b < W.heap.size) (.li 1 (ics xs)) v := by
  obtain ⟨fuel, hf⟩ := hd
  rcases open_ints ht he hc hf with ⟨hcs, _⟩ | ⟨a, len, cap, zs, hcs, _, hle, _, hlen, _, hcell, _⟩
  · refine ⟨[], ?_⟩
    obtain ⟨a, len, cap, rfl⟩ := okWide_slice ht hok
    have e1 : (Value.slice a len cap) = .slice none 0 0 := by simpa [Value.cells] using hcs
    rw [e1]
    exact .linil
  · obtain ⟨a', len', cap', rfl⟩ := okWide_slice ht hok
    have e1 : (Value.slice a' len' cap') = .slice (some a) len cap := by simpa [Value.cells] using hcs
    rw [e1] at hok ⊢
    have hspot : a.spot = none := by
      unfold Value.okWide Cell.okWide Cell.ok at hok
      rw [ht] at hok
      exact hok.2.2.2.1
    obtain ⟨blk, off, spot⟩ := a
    simp only at hspot
    subst hspot
    have hl : (if (fun _ => true) blk = true then cap else len) = cap := by simp
    have hlen' : zs.length = cap := by simpa using hlen
    have htl : (zs.take len).length = len := by rw [List.length_take]; omega
    refine ⟨zs.take len, .li ((zs.take len).map fun x => .int .i64 x) ?_ hle ?_ ?_ ?_ ?_ ?_⟩
    · simp only [List.length_map]; exact htl
    · intro x hx
      obtain ⟨y, _, rfl⟩ := List.mem_map.1 hx
      rfl
    · rw [ics_flat, List.length_map, List.length_map]
    · intro j hj
      rw [List.length_map, htl] at hj
      have h1 := hcell j (by omega)
      rw [add_plain] at h1
      rw [h1, List.getElem?_map, List.getElem?_take, if_pos hj, List.getElem?_eq_getElem (by omega)]
      simp [List.getD, List.getElem?_eq_getElem (show j < zs.length by omega)]
    · intro hne
      have h0 : 0 < len := by
        apply Nat.pos_of_ne_zero
        intro h0
        subst h0
        simp at hne
      have h1 := hcell 0 (by omega)
      rw [add_plain] at h1
      exact cell_lt h1
    · intro j x u hx hu
      rw [ics_flat, List.getElem?_map] at hx
      rw [List.getElem?_map] at hu
      cases hz : (zs.take len)[j]? with
      | none => rw [hz] at hx; cases hx
      | some z =>
        rw [hz] at hx hu
        cases hx; cases hu
        exact .v rfl
theorem three {l : List Value} {a b c : Value} (h : l.length = 3) (h0 : (l.drop (0 * 1)).take 1 = [a]) (h1 : (l.drop (1 * 1)).take 1 = [b]) (h2 : (l.drop (2 * 1)).take 1 = [c]) : l = [a, b, c] := by
  match l, h, h0, h1, h2 with
  | [x, y, z], _, h0, h1, h2 => simp at h0 h1 h2; rw [h0, h1, h2]
theorem nine {l : List Value} {a b c d e f g i j : Value} (h : l.length = 9) (h0 : (l.drop (0 * 3)).take 3 = [a, b, c]) (h1 : (l.drop (1 * 3)).take 3 = [d, e, f]) (h2 : (l.drop (2 * 3)).take 3 = [g, i, j]) : l = [a, b, c, d, e, f, g, i, j] := by
  match l, h, h0, h1, h2 with
  | [x0, x1, x2, x3, x4, x5, x6, x7, x8], _, h0, h1, h2 => simp at h0 h1 h2; simp [h0, h1, h2]
/-- what the condition gives: the matrix -/
theorem id_of_laid {W : World} (h : laidMetH Tryz.prog [("collet/turn.identity", Rows.laid_collet_turn_identity)] W) : GInv glT W (fun b => b < W.heap.size) := by
  rw [MakeChecks.laidMetH_plain _ _ _ (by kernel_rfl)] at h
  obtain ⟨ps, ⟨g0, t0, cs0, f0, p0, q0, hg0, ht0, hv0, hd0, _, _⟩, _, _⟩ := h
  obtain rfl := Option.some.inj (gId.symm.trans hg0)
  obtain rfl := Option.some.inj ((show (Tryz.prog.globals[0]?).map (·.type) = some 72 by kernel_rfl).symm.trans ht0)
  have c3 : Tryz.prog.cellsOf 3 = 1 := by kernel_rfl
  have c24 : Tryz.prog.cellsOf 24 = 3 := by kernel_rfl
  have c72 : Tryz.prog.cellsOf 72 = 9 := by kernel_rfl
  -- a row of three
  have row : ∀ {fuel : Nat} {cs : List Value} {y : DataW Unit × List MemPlace} {a b c : Int}, DataW.trod (fun _ => ()) Tryz.prog W 0 (fun _ => true) false fuel 24 cs = some y → y.1 = .agg [.lit (.int .i64 a), .lit (.int .i64 b), .lit (.int .i64 c)] →
      cs = [.int .i64 a, .int .i64 b, .int .i64 c] := by
    intro fuel cs y a b c hy e
    obtain ⟨xs, m, rfl, hx, hlen, hn, hel⟩ := DataW.trod_array Tryz.underlying24 hy
    rw [c24] at hlen
    rw [hx] at e
    simp only [DataW.agg.injEq] at e
    match xs, hn, e, hel with
    | [x0, x1, x2], _, e, hel =>
      simp only [List.map_cons, List.map_nil, List.cons.injEq, and_true] at e
      have g0 := hel 0 (by decide)
      have g1 := hel 1 (by decide)
      have g2 := hel 2 (by decide)
      rw [c3] at g0 g1 g2
      obtain ⟨k0, q0, w0, _⟩ := DataW.trod_int Tryz.underlying3 (show DataW.trod _ Tryz.prog W 0 _ false m 3 _ = some x0 from g0)
      obtain ⟨k1, q1, w1, _⟩ := DataW.trod_int Tryz.underlying3 (show DataW.trod _ Tryz.prog W 0 _ false m 3 _ = some x1 from g1)
      obtain ⟨k2, q2, w2, _⟩ := DataW.trod_int Tryz.underlying3 (show DataW.trod _ Tryz.prog W 0 _ false m 3 _ = some x2 from g2)
      rw [w0, w1, w2] at e
      simp only [DataW.lit.injEq, Lit.int.injEq, true_and] at e
      obtain ⟨rfl, rfl, rfl⟩ := e
      exact three hlen q0 q1 q2
  obtain ⟨xs, m, rfl, hx, hlen, hn, hel⟩ := DataW.trod_array Tryz.underlying72 hd0
  rw [c72] at hlen
  have hx1 := congrArg Prod.fst hx
  simp only [Rows.laid_collet_turn_identity, DataW.agg.injEq] at hx1
  have hcs : cs0.toList = [.int .i64 1, .int .i64 0, .int .i64 0, .int .i64 0, .int .i64 1, .int .i64 0, .int .i64 0, .int .i64 0, .int .i64 1] := by
    match xs, hn, hx1, hel with
    | [x0, x1, x2], _, e, hel =>
      simp only [List.map_cons, List.map_nil, List.cons.injEq, and_true] at e
      have g0 := row (hel 0 (by decide)) e.1.symm
      have g1 := row (hel 1 (by decide)) e.2.1.symm
      have g2 := row (hel 2 (by decide)) e.2.2.symm
      rw [c24] at g0 g1 g2
      exact nine hlen g0 g1 g2
  have hcell : ∀ j, W.cell? ⟨0, j, none⟩ = cs0[j]? := fun j => World.var?_cell hg0 hv0 j
  have h0 : 0 < W.heap.size := by
    refine cell_lt (o := 0) (v := .int .i64 1) ?_
    rw [hcell 0, ← Array.getElem?_toList, hcs]; rfl
  intro g cs hg
  cases g with
  | succ g => cases hg
  | zero =>
    cases hg
    refine .ref [.int .i64 1, .int .i64 0, .int .i64 0, .int .i64 0, .int .i64 1, .int .i64 0, .int .i64 0, .int .i64 0, .int .i64 1] rfl ?_ h0 ?_
    · intro j hj
      rw [Nat.zero_add, hcell j, ← Array.getElem?_toList, hcs]
    · intro j x u hx hu
      match j with
      | 0 => cases hx; cases hu; exact .v rfl
      | 1 => cases hx; cases hu; exact .v rfl
      | 2 => cases hx; cases hu; exact .v rfl
      | 3 => cases hx; cases hu; exact .v rfl
      | 4 => cases hx; cases hu; exact .v rfl
      | 5 => cases hx; cases hu; exact .v rfl
      | 6 => cases hx; cases hu; exact .v rfl
      | 7 => cases hx; cases hu; exact .v rfl
      | 8 => cases hx; cases hu; exact .v rfl
      | j + 9 => cases hx
/-- A READING IS CARRIED OVER a world that only grew. -/
theorem carry {H : Type} {enc : TypeId × Value → H} {t : TypeId} (hr : Tryz.prog.readableRec t = true) (hrow : t < Tryz.prog.types.size) {W W' : World} (hb : ∀ b, b < W.heap.size → W'.heap[b]? = W.heap[b]?) {v : Value} {d : DataW H} {p : List MemPlace}
    (h : DataW.Trod enc Tryz.prog W 0 (fun _ => true) true t v d p) (hlt : ∀ q ∈ p, q.block < W.heap.size) (sp : Nat → Bool) (hs : ∀ q ∈ p, sp q.block = true) :
    DataW.Trod enc Tryz.prog W' 0 sp true t v d p := by
  obtain ⟨n, hn⟩ := h
  refine ⟨n, DataW.trod_stays (kids_book laidOut0 hr) (book_sized hr) (fun h => by cases h) ⟨hrow, book_self t⟩ hn (fun q hq => ?_) hs⟩
  have hq' := hb _ (hlt q hq)
  cases q with
  | cell b o => exact cell_of_heap hq' o
  | map b => exact hq'
theorem lifted (os : Os) (started : os.Started) (H : Type) (enc : TypeId × Value → H) :
    ReturnsInHanded {} Tryz.checked os 3 .any (fun w args => (Rows.turnHullsSpec.pre enc Tryz.prog Tryz.f3 [] false w args ∧ laidMetH Tryz.prog [("collet/turn.identity", Rows.laid_collet_turn_identity)] w) ∧ sizedMet enc Tryz.prog Tryz.f3 (OpenSpec.ofChange Rows.turnHullsSpec) false w args)
      (Rows.turnHullsSpec.post enc Tryz.prog Tryz.f3 false true false false) := by
  refine returnsInHanded_of_change_and (C := Tryz.checked) (X := fun w _ => laidMetH Tryz.prog [("collet/turn.identity", Rows.laid_collet_turn_identity)] w) (fun _ _ _ hh h => h.of_heap hh) own0 started (by kernel_rfl) Tryz.func3
    (ChangeSpec.witness_shaped (enc := enc) (C := Tryz.checked) (os := os) (X := fun w _ => laidMetH Tryz.prog [("collet/turn.identity", Rows.laid_collet_turn_identity)] w) false (World.doorLaid Tryz.prog 400 os) #[.slice none 0 0, .slice none 0 0] 8 rfl (World.shaped_of_RefB (by kernel_rfl) (by kernel_rfl)) (by kernel_rfl) (by kernel_rfl) (by kernel_rfl) (door_met os _)) ?_
  intro W base args ds gs before hval0 hW _ _ hL _
  have hval : ∀ (j : Nat) t v, Tryz.f3.params[j]? = some t → args[j]? = some v → Value.okWide Tryz.prog W .any base t v := hval0
  have hW' := hW
  obtain ⟨p, q, hA0, hV, rfl, hfz, hnd⟩ := hW
  have hA : DataW.TrodAll enc Tryz.prog W 0 (fun _ => true) true Tryz.f3.params.toList args.toList ds p := hA0
  rw [Tryz.params3] at hA hval
  obtain ⟨v0, v1, d0, d1, p0, p1, rfl, rfl, rfl, h0, h1⟩ := trodAll_two hA
  obtain ⟨rfl, rfl⟩ := trodVars_none hV
  have hc3 : Tryz.prog.cellsOf 3 = 1 := by kernel_rfl
  obtain ⟨l, hl⟩ := ints_PR Tryz.underlying22 Tryz.underlying3 hc3 (hval 0 22 v0 rfl rfl) h0
  obtain ⟨m, hm⟩ := ints_PR Tryz.underlying22 Tryz.underlying3 hc3 (hval 1 22 v1 rfl rfl) h1
  have hspec := (law_spec l m).2 W (fun b => b < W.heap.size) ⟨0, .slice none 0 0, 0, 0⟩ [v0, v1] (fun _ h => h) (id_of_laid hL) (fun _ h => by cases h)
    ⟨⟨[v0], ⟨RA.of_PR hl, trivial⟩, rfl⟩, ⟨⟨[v1], ⟨RA.of_PR hm, trivial⟩, rfl⟩, trivial⟩⟩
  refine (callsIn_wide.1 hspec).mono fun e W' hh => ?_
  obtain ⟨v, imm', c', he, hv, _, _, _, hext⟩ := hh
  subst he
  obtain ⟨us, hus, hv⟩ := hv
  have hvt : v = .bool true := by
    match us, hus, hv with
    | [u], hus, hv =>
      have h1 : PR W' imm' (.b true) u := hus.1
      have h2 : [u] = [v] := hv
      cases h2
      cases h1
      rfl
  subst hvt
  have hlt := hW'.lt
  have hheap : ∀ b, b < W.heap.size → W'.heap[b]? = W.heap[b]? := fun b hb => hext.block b hb (fun ⟨_, h, _⟩ => by cases h)
  have hr22 : Tryz.prog.readableRec 22 = true := by kernel_rfl
  have hrow22 : 22 < Tryz.prog.types.size := of_decide_eq_true (by kernel_rfl)
  refine ⟨_, rfl, _, _, _, [], p0 ++ (p1 ++ []), [], hW', ?_, ?_, ?_, World.keptBut.congr (World.keptBut_refl W _) hext.os hext.output hheap, fun h => by cases h⟩
  · exact trodAll_mk1 (shut_bool Tryz.underlying4 true)
  · exact trodAll_cons_mk (carry hr22 hrow22 hheap h0 (fun x hx => hlt x (by simp [hx])) _ (fun x hx => by simpa using hlt x (by simp [hx])))
      (trodAll_cons_mk (carry hr22 hrow22 hheap h1 (fun x hx => hlt x (by simp [hx])) _ (fun x hx => by simpa using hlt x (by simp [hx]))) rfl)
  · exact rfl
theorem turnHulls_row_holds : Rows.TurnHullsSaid :=
  OpenClaim.holds_of_wide 3 Tryz.f3 rfl rfl rfl rfl rfl rfl rfl ⟨rfl, rfl, rfl, rfl, rfl⟩ rfl rfl rfl rfl rfl (by kernel_rfl) Tryz.func3 (by kernel_rfl)
    (of_decide_eq_true (by kernel_rfl)) (by unfold Func.isWrapper; first | (rw [if_pos (by decide +kernel)]; kernel_rfl) | (rw [if_neg (by decide +kernel)]; exact ⟨rfl, rfl⟩))
    (fun os started H enc _ => lifted os started H enc)
theorem turnHulls_holds : Rows.TurnHullsCardSaid :=
  Claim7.holds_tied_plain_at .later [] [.wider] true (true, "c50ecc40fdf1356d1a6161ca5119610dafb8a75bcc2dab40e7c25b0db28e8a79") false
    turnHulls_row_holds (fun _ h => by cases h) (by kernel_rfl) (fun _ h => by cases h) turnHulls_row_tie rfl ⟨rfl, rfl⟩ (by kernel_rfl) rfl
    (fun f fn hf hfn => by
      obtain rfl : f = 3 := Option.some.inj ((show Tryz.prog.funcNamed "collet/colletlaw11.TurnHulls" = some 3 by kernel_rfl).symm.trans hf) |>.symm
      obtain rfl : fn = Tryz.f3 := (Option.some.inj (Tryz.func3.symm.trans hfn)).symm
      exact ⟨by kernel_rfl, fun j t ht => by
        rw [Tryz.params3] at ht
        have hm : t ∈ [22, 22] := by simpa using Array.mem_of_getElem? ht
        have hall : ([22, 22].all fun u => !Tryz.prog.wantsStandIn u) = true := by kernel_rfl
        exact (show Tryz.prog.wantsStandIn t = false by simpa using List.all_eq_true.1 hall t hm)⟩)
    (by kernel_rfl)
#print axioms turnHulls_holds
end Go.Proofs.YtlbafapmhjfobaaGreatDoor
