/-
  Contracts: sorting and cloning lists of points and planes; the reference's draws and vectors.
-/
import Derived.Shelf.SlSortCmp.WholeK
import Derived.Shelf.SlSortCmp.NoneTotal
import Derived.Shelf.Lay
import Derived.Ground.SlsfProg
import Derived.Test.YtlbafapmhjfobaaGreatDoorTurn2
import Derived.Test.YtlbafapmhjfobaaGreatDoorPlane
import Derived.Test.YtlbafapmhjfobaaGreatDoorCode2
import Derived.Test.YtlbafapmhjfobaaGreatDoorAbs4
import Derived.Test.YtlbafapmhjfobaaGreatDoorProg
set_option linter.unusedVariables false
set_option linter.unusedSimpArgs false
namespace Go.Proofs.YtlbafapmhjfobaaGreatDoor
open Go.Shelf Go.RowKit Go.Lib Go.Sort
set_option maxRecDepth 100000
attribute [local irreducible] LoopW RngW retPure retFresh retBox retTurn
shelf_lay_g SlLaysF0.n6 Slsf 6 at Tryz 74 as sortV
shelf_lay_g SlLaysF0.n6 Slsf 6 at Tryz 38 as sortP

/-- a world that has grown, and of which no old block has turned -/
theorem Ext.grown {S : Nat → Prop} {w w' : World} (h : Ext S w w') (hS : ∀ x, ¬ S x) : ∃ q os, w' = grow (w.drewN q) os := by
  refine ⟨w'.drawn - w.drawn, w'.heap.extract w.heap.size w'.heap.size, ?_⟩
  have hheap : w'.heap = w.heap ++ w'.heap.extract w.heap.size w'.heap.size := by
    refine Array.ext_getElem? fun i => ?_
    rw [Array.getElem?_append]
    split
    · rename_i hi; exact h.block i hi (hS i)
    · rename_i hi
      rw [Array.getElem?_extract]
      have := h.size
      split
      · rw [show w.heap.size + (i - w.heap.size) = i by omega]
      · rw [Array.getElem?_eq_none (by omega)]
  have hd := h.drawn
  cases w with
  | mk hp tp dr os out =>
    cases w' with
    | mk hp' tp' dr' os' out' =>
      have h1 : os' = os := h.os
      have h2 : tp' = tp := h.tape
      have h3 : out' = out := h.output
      subst h1; subst h2; subst h3
      simp only [grow, World.drewN] at hheap hd ⊢
      rw [← hheap, Nat.add_sub_cancel' hd]

def gl0 : Nat → Option (List AV) := fun _ => none
theorem GInv0 (w : World) (imm : Nat → Prop) : GInv gl0 w imm := fun g cs h => by cases h
/-- a comparison, as the sort meets it -/
theorem cmp_lays {α : Type} [Inhabited α] {g k blk off size : Nat} {enc : α → List Value} {cf : α → α → Int} {w : World}
    (h : ∀ x y, Spec Tryz.prog gl0 g none [(true, (enc x).map AV.v), (true, (enc y).map AV.v)] (.c false [.i (cf x y)]) none) (h1 : ∀ x, cellsOk (enc x) = true) :
    CmpLays Tryz.prog g #[] enc k cf blk off size w := by
  intro m os dk _ x y
  have hs := (h x y).2 (sortWorldK enc k w blk off m dk os) (fun _ => False) ⟨0, .nilFunc, 0, 0⟩ [.agg (enc x).toArray, .agg (enc y).toArray] (fun _ h => h.elim) (GInv0 _ _) (fun he h => by cases h)
    ⟨⟨enc x, PR.lits (h1 x), by simp⟩, ⟨enc y, PR.lits (h1 y), by simp⟩, trivial⟩
  refine Calls.mono (callsIn_wide.1 hs) fun e w' hh => ?_
  obtain ⟨v, imm', c', rfl, hr, _, _, _, hext⟩ := hh
  refine ⟨by rw [RS_v hr], hext.grown (fun x hx => ?_)⟩
  obtain ⟨he, h1, _⟩ := hx
  cases h1
end Go.Proofs.YtlbafapmhjfobaaGreatDoor
namespace Go.Proofs.YtlbafapmhjfobaaGreatDoor
open Go.Shelf Go.RowKit Go.Lib Go.Sort
set_option maxRecDepth 100000
attribute [local irreducible] LoopW RngW retPure retFresh retBox retTurn

theorem flat_at {β : Type} {k : Nat} : ∀ (xs : List (List β)), (∀ x ∈ xs, x.length = k) → ∀ (i : Nat) (hi : i < xs.length) (l : Nat), l < k → xs.flatten[i * k + l]? = (xs[i])[l]?
  | x :: xs, h, 0, _, l, hl => by
    have := h x (by simp)
    simp only [List.flatten_cons, Nat.zero_mul, Nat.zero_add, List.getElem_cons_zero]
    rw [List.getElem?_append_left (by omega)]
  | x :: xs, h, i + 1, hi, l, hl => by
    have hx := h x (by simp)
    simp only [List.flatten_cons, List.getElem_cons_succ]
    rw [List.getElem?_append_right (by rw [hx, Nat.add_mul]; omega), hx, show (i + 1) * k + l - k = i * k + l by rw [Nat.add_mul]; omega]
    exact flat_at xs (fun y hy => h y (by simp [hy])) i (by simpa using hi) l hl
theorem flat_len {β : Type} {k : Nat} : ∀ (xs : List (List β)), (∀ x ∈ xs, x.length = k) → xs.flatten.length = xs.length * k
  | [], _ => by simp
  | x :: xs, h => by
    rw [List.flatten_cons, List.length_append, h x (by simp), flat_len xs (fun y hy => h y (by simp [hy])), List.length_cons, Nat.add_mul]
    omega
theorem flatK_eq {α : Type} [Inhabited α] {enc : α → List Value} {k : Nat} (hk : ∀ x, (enc x).length = k) (xs : List α) : Go.Sort.flatK enc k xs.toArray = (xs.map enc).flatten.toArray := by
  have hl : ∀ y ∈ xs.map enc, y.length = k := by
    intro y hy
    obtain ⟨x, _, rfl⟩ := List.mem_map.1 hy
    exact hk x
  refine ext_get! (by simp only [size_flatK, List.size_toArray, flat_len _ hl, List.length_map]) fun t ht => ?_
  have ht' : t < xs.toArray.size * k := by simpa using ht
  have k0 : 0 < k := by
    rcases Nat.eq_zero_or_pos k with h | h
    · subst h; simp at ht'
    · exact h
  have hq : t / k < xs.length := by rw [Nat.div_lt_iff_lt_mul k0]; simpa using ht'
  have hm : t % k < k := Nat.mod_lt _ k0
  rw [get_flatK _ _ _ t ht']
  have e := flat_at (xs.map enc) hl (t / k) (by simpa using hq) (t % k) hm
  rw [show t / k * k + t % k = t by rw [Nat.mul_comm]; exact Nat.div_add_mod t k] at e
  simp only [List.getElem_map] at e
  simp only [List.getElem!_toArray, List.getElem!_eq_getElem?_getD, e]
  rw [List.getElem?_eq_getElem hq]
  rfl
end Go.Proofs.YtlbafapmhjfobaaGreatDoor
namespace Go.Proofs.YtlbafapmhjfobaaGreatDoor
open Go.Shelf Go.RowKit Go.Lib Go.Sort
set_option maxRecDepth 100000
attribute [local irreducible] LoopW RngW retPure retFresh retBox retTurn

def sortBy {α : Type} [Inhabited α] (cf : α → α → Int) (xs : List α) : List α := (pdq (ltOf cf) xs.toArray 0 xs.length (Lib.bitLen xs.length) true true).toList
theorem sortBy_perm {α : Type} [Inhabited α] {cf : α → α → Int} (hO : SWO (ltOf cf)) (xs : List α) :
    (sortBy cf xs).Perm xs ∧ SortedIn (ltOf cf) 0 xs.length (sortBy cf xs).toArray := by
  obtain ⟨⟨h1, h2, h3⟩, h4⟩ := pdq_sorts (ltOf cf) hO xs.toArray 0 xs.length (Lib.bitLen xs.length) true true (Nat.zero_le _) (by simp) (Or.inl rfl)
  refine ⟨?_, by simpa [sortBy] using h4⟩
  have e1 : (pdq (ltOf cf) xs.toArray 0 xs.length (Lib.bitLen xs.length) true true).size = xs.length := by simpa using h1
  have e2 : ∀ (D : Array α), D.size = xs.length → D.extract 0 xs.length = D := by
    intro D hD
    refine Array.ext_getElem? fun i => ?_
    rw [Array.getElem?_extract]
    split
    · rw [Nat.zero_add]
    · rw [Array.getElem?_eq_none (by omega)]
  rw [e2 _ e1] at h3
  simpa [sortBy] using h3
theorem sortBy_len {α : Type} [Inhabited α] {cf : α → α → Int} (hO : SWO (ltOf cf)) (xs : List α) : (sortBy cf xs).length = xs.length := (sortBy_perm hO xs).1.length_eq
theorem PR_lits {w : World} {imm : Nat → Prop} : ∀ {vs us : List Value}, F2 (PR w imm) (vs.map AV.v) us → us = vs
  | [], [], _ => rfl
  | v :: vs, u :: us, h => by
    have h1 : RA w imm (fun _ => ⟨0, .nilFunc, 0, 0⟩) (.v v) u := h.1
    rw [RA_v h1, PR_lits h.2]
  | [], _ :: _, h => h.elim
  | _ :: _, [], h => h.elim
theorem PR_lits' {w : World} {imm : Nat → Prop} : ∀ {vs : List Value}, (∀ v ∈ vs, v.oneCell' = true) → F2 (PR w imm) (vs.map AV.v) vs
  | [], _ => trivial
  | v :: vs, h => ⟨.v (h v (by simp)), PR_lits' fun u hu => h u (by simp [hu])⟩
theorem putCells_pre (F : Array Value) (us rest : List Value) (h : F.size = us.length) : putCells id 0 F (us ++ rest).toArray = (F.toList ++ rest).toArray := by
  apply Array.ext_getElem?
  intro i
  simp only [putCells, Array.getElem?_mapIdx, List.getElem?_toArray, Nat.zero_add, Nat.zero_le, true_and, Nat.sub_zero, id]
  by_cases hi : i < F.size
  · rw [List.getElem?_append_left (l₁ := F.toList) (by simpa using hi), List.getElem?_append_left (by omega), List.getElem?_eq_getElem (by omega)]
    rw [Option.map_some, if_pos hi, Array.getElem?_toList, Array.getElem?_eq_getElem hi, getElem!_pos F i hi]
  · have hl : F.toList.length = us.length := by simp [h]
    rw [List.getElem?_append_right (l₁ := F.toList) (by omega), List.getElem?_append_right (l₁ := us) (by omega), hl]
    cases rest[i - us.length]? with
    | none => rfl
    | some v => rw [Option.map_some, if_neg (by omega)]

theorem sort_spec {α : Type} [Inhabited α] {F k g : Nat} {ρ : Ren} (L : SlLaysF0.n6 Tryz.prog ρ) (hF : ρ.f 6 = F) (aE : ∀ w, (isAgg (ρ.t 24)).run Tryz.prog w = .ok true w) (zE : ∀ w, (Go.sizeOf (ρ.t 24)).run Tryz.prog w = .ok k w)
    {enc : α → List Value} (hk : ∀ x, (enc x).length = k) (h1 : ∀ x, cellsOk (enc x) = true) {cf : α → α → Int} (hO : SWO (ltOf cf))
    (hc : ∀ x y, Spec Tryz.prog gl0 g none [(true, (enc x).map AV.v), (true, (enc y).map AV.v)] (.c false [.i (cf x y)]) none) (hent : EntersP Tryz.prog F) {gl : Nat → Option (List AV)} {xs : List α} (hx : xs.length ≤ 1000000) :
    Spec Tryz.prog gl F (some (.row k (xs.map fun x => (enc x).map AV.v))) [(false, [.own 0 xs.length]), (false, [.fn g [] []])] (.tup []) (some (.row k ((sortBy cf xs).map fun x => (enc x).map AV.v))) := by
  have hlen := sortBy_len hO xs
  have hall : ∀ (ys : List α), ∀ y ∈ ys.map (fun x => (enc x).map AV.v), y.length = k := by
    intro ys y hy
    obtain ⟨x, _, rfl⟩ := List.mem_map.1 hy
    simp [hk]
  have hfl : ∀ (ys : List α), (ys.map fun x => (enc x).map AV.v).flatten = ((ys.map enc).flatten).map AV.v := by
    intro ys
    rw [List.map_flatten, List.map_map]; rfl
  have hone : ∀ (ys : List α), ∀ v ∈ (ys.map enc).flatten, v.oneCell' = true := by
    intro ys v hv
    obtain ⟨l, hl, hv⟩ := List.mem_flatten.1 hv
    obtain ⟨x, _, rfl⟩ := List.mem_map.1 hl
    exact List.all_eq_true.1 (h1 x) v hv
  have hel : ∀ (ys : List α), ∀ y ∈ ys.map enc, y.length = k := by
    intro ys y hy
    obtain ⟨x, _, rfl⟩ := List.mem_map.1 hy
    exact hk x
  refine ⟨hent, fun w imm c us himm hgl hh hargs => ?_⟩
  obtain ⟨⟨e1, e2, e3, e4⟩, hU⟩ := hh _ rfl
  match us, hargs with
  | [u0, u1], hargs =>
    have a0 : RA w imm (fun _ => c) (.own 0 xs.length) u0 := RS.c1 hargs.1
    have a1 : PR w imm (.fn g [] []) u1 := RS.c1 hargs.2.1
    have hu0 := a0.2 (by rw [e1]; simp)
    have hu1 : u1 = .func (.func g) #[] #[] := by
      cases a1 with
      | fn vs us g1 g2 g3 g4 g7 =>
        cases vs with
        | nil => cases us with
          | nil => rfl
          | cons => simp at g2
        | cons => simp at g1
    rw [hu0, hu1]
    refine callsIn_wide.2 ?_
    rcases e4 with ⟨e5, e6⟩ | ⟨cap, vs, rest, el, e5, e6, e7, e8, e9⟩
    · have hnil : xs = [] := by simpa using e5
      subst hnil
      have hs : sortBy cf ([] : List α) = [] := List.length_eq_zero_iff.1 (by simpa using hlen)
      rw [e6]
      have hn := AnyF.slices_SortFunc_none L none 0 (.func (.func g) #[] #[]) w
      rw [hF] at hn
      refine hn.mono fun e w' hw => ?_
      obtain ⟨rfl, rfl⟩ := hw
      refine ⟨_, imm, c, rfl, ⟨[], rfl, trivial⟩, fun _ h => h, fun x hx => ⟨himm x hx, .inl hx⟩, fun he' hhe => ?_, .refl _ _⟩
      cases hhe
      rw [hs]
      exact ⟨⟨by simpa using e1, e2, by simp, .inl ⟨rfl, e6⟩⟩, fun he hh => ⟨fun hu => absurd e6 hu, fun _ => rfl⟩, (fun h => by cases h), fun hu => absurd e6 hu⟩
    · rw [hfl] at e9
      have hvs := PR_lits e9
      have hu : (HE.row k (xs.map fun x => (enc x).map AV.v)).uses c := by simp [HE.uses, e5]
      obtain ⟨hblk, hni⟩ := hU hu
      simp only [List.length_map] at e5 e6
      have hH : HoldsK enc k w c.blk 0 xs.toArray := by
        intro j hj
        rw [flatK_eq hk, ← hvs] at hj ⊢
        have hj' : j < vs.length := by simpa using hj
        rw [Nat.zero_add, getElem!_pos vs.toArray j hj]
        refine ⟨?_, ?_⟩
        · rw [cellsAt e8, List.getElem?_append_left hj', List.getElem?_eq_getElem hj']; rfl
        · simp only [World.frozen?, e8]; simp
      have hs := AnyQ.slices_SortFunc_eq L k aE zE enc hk (fun x v hv => List.all_eq_true.1 (h1 x) v hv) cf hO g #[] c.blk 0 cap xs.toArray w (hc default default).1 (cmp_lays hc h1) hH hblk (by simp; omega)
      rw [hF] at hs
      rw [e5]
      refine hs.mono fun e w' hw => ?_
      obtain ⟨rfl, n, os, rfl⟩ := hw
      have hpdq : pdq (ltOf cf) xs.toArray 0 xs.toArray.size (Lib.bitLen xs.toArray.size) true true = (sortBy cf xs).toArray := by simp [sortBy]
      rw [hpdq]
      have hsz : ((sortBy cf xs).map enc).flatten.length = vs.length := by
        rw [flat_len _ (hel _), hvs, flat_len _ (hel _)]; simp [hlen]
      have hheap : ∀ b, b < w.heap.size → (sortWorldK enc k w c.blk 0 n (sortBy cf xs).toArray os).heap[b]? = if b = c.blk then some (.cells (((sortBy cf xs).map enc).flatten ++ rest).toArray el) else w.heap[b]? := by
        intro b hb
        simp only [sortWorldK, grow, putRowK, putRow, mapBlock, Sort.ahead]
        rw [Array.getElem?_append_left (by simpa using hb), Array.getElem?_modify, flatK_eq hk]
        by_cases hbc : c.blk = b
        · subst hbc
          rw [if_pos rfl, if_pos rfl, e8]
          simp only [Option.map_some, onCells]
          rw [putCells_pre _ _ _ (by simpa using hsz)]
        · rw [if_neg hbc, if_neg (Ne.symm hbc)]
      refine ⟨_, imm, c, rfl, ⟨[], rfl, trivial⟩, fun _ h => h, fun x hx => ⟨?_, .inl hx⟩, fun he' hhe => ?_, ⟨rfl, rfl, rfl, ?_, ?_, fun b hb hnb => ?_⟩⟩
      · have := himm x hx
        simp only [sortWorldK, grow, putRowK, putRow, mapBlock, Sort.ahead, Array.size_append, Array.size_modify]; omega
      · cases hhe
        refine ⟨⟨by rw [e1]; simp [hlen], e2, hall _, .inr ⟨cap, ((sortBy cf xs).map enc).flatten, rest, el, by rw [List.length_map, hlen]; exact e5, by rw [List.length_map, hlen]; exact e6, by rw [hsz]; exact e7, by rw [hheap _ hblk, if_pos rfl], ?_⟩⟩, fun he hh => ⟨fun hu => ⟨by cases hh; exact hu, rfl⟩, fun _ => rfl⟩, (fun h => by cases h), fun _ => ⟨?_, hni⟩⟩
        · rw [hfl]; exact PR_lits' (hone _)
        · simp only [sortWorldK, grow, putRowK, putRow, mapBlock, Sort.ahead, Array.size_append, Array.size_modify]; omega
      · simp only [sortWorldK, grow, putRowK, putRow, mapBlock, Sort.ahead]; omega
      · simp only [sortWorldK, grow, putRowK, putRow, mapBlock, Sort.ahead, Array.size_append, Array.size_modify]; omega
      · rw [hheap b hb, if_neg fun e => hnb ⟨_, rfl, hu, e⟩]
end Go.Proofs.YtlbafapmhjfobaaGreatDoor
namespace Go.Proofs.YtlbafapmhjfobaaGreatDoor
open Go.Shelf Go.RowKit Go.Lib Go.Sort
set_option maxRecDepth 100000
attribute [local irreducible] LoopW RngW retPure retFresh retBox retTurn
instance : Inhabited V3 := ⟨⟨0, 0, 0⟩⟩
instance : Inhabited Pl := ⟨⟨⟨0, 0, 0⟩, 0⟩⟩
def encV (v : V3) : List Value := [.int .i64 v.x, .int .i64 v.y, .int .i64 v.z]
def encP (p : Pl) : List Value := [.int .i64 p.n.x, .int .i64 p.n.y, .int .i64 p.n.z, .int .i64 p.b]
theorem cmpV_lt (a b : V3) : ltOf cmpV a b = decide (a.x < b.x ∨ (a.x = b.x ∧ (a.y < b.y ∨ (a.y = b.y ∧ a.z < b.z)))) := by
  unfold ltOf
  rw [Bool.eq_iff_iff]
  simp only [decide_eq_true_eq, cmpV, orL, ordI]
  repeat' split
  all_goals first | omega | (simp; omega)
theorem cmpV_swo : SWO (ltOf cmpV) where
  irrefl x := by rw [cmpV_lt]; simp
  trans x y z h1 h2 := by rw [cmpV_lt] at *; simp only [decide_eq_true_eq] at *; omega
  ntrans x y z h1 h2 := by rw [cmpV_lt] at *; simp only [decide_eq_false_iff_not] at *; omega
theorem cmpP_lt (p q : Pl) : ltOf cmpP p q = decide (p.n.x < q.n.x ∨ (p.n.x = q.n.x ∧ (p.n.y < q.n.y ∨ (p.n.y = q.n.y ∧ (p.n.z < q.n.z ∨ (p.n.z = q.n.z ∧ p.b < q.b)))))) := by
  unfold ltOf
  rw [Bool.eq_iff_iff]
  simp only [decide_eq_true_eq, cmpP, ordI]
  repeat' split
  all_goals first | omega | (simp at *; omega) | (simp; omega)
theorem cmpP_swo : SWO (ltOf cmpP) where
  irrefl x := by rw [cmpP_lt]; simp
  trans x y z h1 h2 := by rw [cmpP_lt] at *; simp only [decide_eq_true_eq] at *; omega
  ntrans x y z h1 h2 := by rw [cmpP_lt] at *; simp only [decide_eq_false_iff_not] at *; omega
theorem sortV_spec {gl : Nat → Option (List AV)} {xs : List V3} (hx : xs.length ≤ 1000000) :
    Spec Tryz.prog gl 74 (some (.row 3 (vcs xs))) [(false, [.own 0 xs.length]), (false, [.fn 75 [] []])] (.tup []) (some (.row 3 (vcs (sortBy cmpV xs)))) :=
  sort_spec sortV (by kernel_rfl) (fun w => run_isAgg _ _ (by kernel_rfl)) (fun w => run_size _ _ (by kernel_rfl)) (enc := encV) (fun _ => rfl) (fun _ => rfl) cmpV_swo (fun x y => cmpV_spec x y) Tryz.call74 hx
theorem sortP_spec {gl : Nat → Option (List AV)} {xs : List Pl} (hx : xs.length ≤ 1000000) :
    Spec Tryz.prog gl 38 (some (.row 4 (pcs xs))) [(false, [.own 0 xs.length]), (false, [.fn 39 [] []])] (.tup []) (some (.row 4 (pcs (sortBy cmpP xs)))) :=
  sort_spec sortP (by kernel_rfl) (fun w => run_isAgg _ _ (by kernel_rfl)) (fun w => run_size _ _ (by kernel_rfl)) (enc := encP) (fun _ => rfl) (fun _ => rfl) cmpP_swo (fun x y => compare_spec x y) Tryz.call38 hx
end Go.Proofs.YtlbafapmhjfobaaGreatDoor
namespace Go.Proofs.YtlbafapmhjfobaaGreatDoor
set_option maxRecDepth 100000
attribute [local irreducible] LoopW RngW retPure retFresh retBox retTurn
variable {gl : Nat → Option (List AV)}
def modI (n m : Int) : Int := (n.tmod m + m).tmod m
theorem mod_spec {n m : Int} (hm : 1 ≤ m ∧ m ≤ 1073741824) : Spec Tryz.prog gl 58 none [(false, [.i n]), (false, [.i m])] (.c false [.i (modI n m)]) none := by
  refine spec_plain A58_comp Tryz.func58 Tryz.call58 fol Tryz.ntmps58 Tryz.results58 (argsB_spec rfl) (Nat.le_of_ble_eq_true rfl) (idf_c rfl) ?_
  ((conv => whnf); (repeat (refine ⟨rfl, ?_⟩; (conv => whnf))))
  have h1 : decide (m < 1) = false := by simp; omega
  rw [h1]; ((conv => whnf); (repeat (first | (refine ⟨rfl, ?_⟩; (conv => whnf)) | (refine ⟨fun h => Bool.noConfusion h, fun _ => ?_⟩; (conv => whnf)))))
  refine ⟨by omega, ?_⟩; ((conv => whnf); (repeat (refine ⟨rfl, ?_⟩; (conv => whnf))))
  have h2 : n.tmod m < m := Int.tmod_lt_of_pos _ (by omega)
  have h3 : -m < n.tmod m := by
    have := Int.lt_tmod_of_pos n (show 0 < m by omega)
    omega
  rw [wr (n := n.tmod m + m) (by omega)]
  refine ⟨by omega, ?_⟩; (conv => whnf)
  exact retPure_ret rfl rfl
def nextV (xs : List Int) (at_ : Nat) (m : Int) : Int := if at_ < xs.length then modI (xs.getD at_ 0) m else 0
def nextAt (xs : List Int) (at_ : Nat) : Nat := if at_ < xs.length then at_ + 1 else at_
theorem next_spec {xs : List Int} {at_ : Nat} {m : Int} (hm : 1 ≤ m ∧ m ≤ 1073741824) (ha : at_ ≤ 1000000) :
    Spec Tryz.prog gl 25 (some (.box [.li 1 (ics xs), .i at_])) [(false, [.ptr 0 0]), (false, [.i m])] (.c false [.i (nextV xs at_ m)]) (some (.box [.li 1 (ics xs), .i (nextAt xs at_)])) := by
  refine spec_box' A25_comp Tryz.func25 Tryz.call25 fol Tryz.ntmps25 Tryz.results25 ?_ (Nat.le_of_ble_eq_true rfl) (idf_c rfl) (idf_c rfl) (idf_c rfl) ?_
  · intro p hp x hx
    simp at hp
    rcases hp with rfl | rfl
    · simp at hx; subst hx; exact .ptr0
    · simp at hx; subst hx; exact .none_id rfl
  ((conv => whnf); (repeat (first | (refine ⟨(by kernel_rfl : chk _ _ = true), ?_⟩; (conv => whnf)) | (refine ⟨rfl, ?_⟩; (conv => whnf)) | (refine ⟨Nat.le_of_ble_eq_true rfl, ?_⟩; (conv => whnf)))))
  refine ⟨fun h => ?_, fun h => ?_⟩
  · have h' : ¬ at_ < xs.length := by simpa using h
    (conv => whnf)
    refine retBox_ret rfl ?_ ?_
    · exact eq1 (by simp [nextV, h'])
    · simp only [nextAt, h', if_false]; rfl
  · have h' : at_ < xs.length := by simpa using h
    ((conv => whnf); (repeat (first | (refine ⟨rfl, ?_⟩; (conv => whnf)) | (refine ⟨Nat.le_of_ble_eq_true rfl, ?_⟩; (conv => whnf)))))
    rw [wr (n := (at_ : Int) + 1) (by omega)]
    rw [wr (n := (at_ : Int) + 1 - 1) (by omega)]
    refine ⟨⟨by omega, by simp; omega⟩, ?_⟩
    have e : (ics xs).getD ((at_ : Int) + 1 - 1).toNat [] = [.i (xs.getD at_ 0)] := by
      rw [show ((at_ : Int) + 1 - 1).toNat = at_ by omega]; simp [h']
    rw [e]; ((conv => whnf); (repeat (refine ⟨Nat.le_of_ble_eq_true rfl, ?_⟩; (conv => whnf))))
    refine call_pure (mod_spec hm) rfl rfl rfl ?_
    ((conv => whnf); (repeat (refine ⟨(by kernel_rfl : chk _ _ = true), ?_⟩; (conv => whnf))))
    refine retBox_ret rfl ?_ ?_
    · exact eq1 (by simp only [nextV, h', if_true])
    · simp only [nextAt, h', if_true]; rfl
end Go.Proofs.YtlbafapmhjfobaaGreatDoor
namespace Go.Proofs.YtlbafapmhjfobaaGreatDoor
set_option maxRecDepth 100000
attribute [local irreducible] LoopW RngW retPure retFresh retBox retTurn
variable {gl : Nat → Option (List AV)}
theorem radd_spec {a b : V3} (ha : a.bd 1099511627776) (hb : b.bd 1099511627776) : Spec Tryz.prog gl 65 none [(true, a.cs), (true, b.cs)] (.c true (a.add b).cs) none := by
  refine spec_plain A65_comp Tryz.func65 Tryz.call65 fol Tryz.ntmps65 Tryz.results65 (argsB_spec rfl) (Nat.le_of_ble_eq_true rfl) (idf_c rfl) ?_
  unfold V3.bd at ha hb
  ((conv => whnf); (repeat (first | (refine ⟨rfl, ?_⟩; (conv => whnf)) | (refine ⟨Nat.le_of_ble_eq_true rfl, ?_⟩; (conv => whnf)))))
  refine retPure_ret rfl ?_
  exact eq3 (wr (by omega)) (wr (by omega)) (wr (by omega))
theorem rdot_spec {a b : V3} (ha : a.bd 1073741824) (hb : b.bd 1073741824) : Spec Tryz.prog gl 60 none [(true, a.cs), (true, b.cs)] (.c false [.i (a.dot b)]) none := by
  refine spec_plain A60_comp Tryz.func60 Tryz.call60 fol Tryz.ntmps60 Tryz.results60 (argsB_spec rfl) (Nat.le_of_ble_eq_true rfl) (idf_c rfl) ?_
  have h1 := mul_bd ha.1 hb.1
  have h2 := mul_bd ha.2.1 hb.2.1
  have h3 := mul_bd ha.2.2 hb.2.2
  ((conv => whnf); (repeat (first | (refine ⟨rfl, ?_⟩; (conv => whnf)) | (refine ⟨Nat.le_of_ble_eq_true rfl, ?_⟩; (conv => whnf)))))
  refine retPure_ret rfl ?_
  refine eq1 ?_
  rw [wr (n := a.x * b.x) (by omega), wr (n := a.y * b.y) (by omega), wr (n := a.z * b.z) (by omega), wr (n := a.x * b.x + a.y * b.y) (by omega)]
  exact wr (by omega)
theorem rcross_spec {a b : V3} (ha : a.bd 1073741824) (hb : b.bd 1073741824) : Spec Tryz.prog gl 55 none [(true, a.cs), (true, b.cs)] (.c true (a.cross b).cs) none := by
  refine spec_plain A55_comp Tryz.func55 Tryz.call55 fol Tryz.ntmps55 Tryz.results55 (argsB_spec rfl) (Nat.le_of_ble_eq_true rfl) (idf_c rfl) ?_
  have h1 := mul_bd ha.2.1 hb.2.2
  have h2 := mul_bd ha.2.2 hb.2.1
  have h3 := mul_bd ha.2.2 hb.1
  have h4 := mul_bd ha.1 hb.2.2
  have h5 := mul_bd ha.1 hb.2.1
  have h6 := mul_bd ha.2.1 hb.1
  ((conv => whnf); (repeat (first | (refine ⟨rfl, ?_⟩; (conv => whnf)) | (refine ⟨Nat.le_of_ble_eq_true rfl, ?_⟩; (conv => whnf)))))
  refine retPure_ret rfl ?_
  refine eq3 ?_ ?_ ?_
  · rw [wr (n := a.y * b.z) (by omega), wr (n := a.z * b.y) (by omega)]; exact wr (by omega)
  · rw [wr (n := a.z * b.x) (by omega), wr (n := a.x * b.z) (by omega)]; exact wr (by omega)
  · rw [wr (n := a.x * b.y) (by omega), wr (n := a.y * b.x) (by omega)]; exact wr (by omega)
theorem rsub_spec {a b : V3} (ha : a.bd 1099511627776) (hb : b.bd 1099511627776) : Spec Tryz.prog gl 95 none [(true, a.cs), (true, b.cs)] (.c true (a.sub b).cs) none := by
  refine spec_plain A95_comp Tryz.func95 Tryz.call95 fol Tryz.ntmps95 Tryz.results95 (argsB_spec rfl) (Nat.le_of_ble_eq_true rfl) (idf_c rfl) ?_
  unfold V3.bd at ha hb
  ((conv => whnf); (repeat (first | (refine ⟨rfl, ?_⟩; (conv => whnf)) | (refine ⟨Nat.le_of_ble_eq_true rfl, ?_⟩; (conv => whnf)))))
  refine retPure_ret rfl ?_
  exact eq3 (wr (by omega)) (wr (by omega)) (wr (by omega))
theorem nextAt_le (xs : List Int) (a : Nat) : nextAt xs a ≤ a + 1 := by unfold nextAt; split <;> omega
theorem modI_bd {n m : Int} (hm : 1 ≤ m) : 0 ≤ modI n m ∧ modI n m < m := by
  have h2 : n.tmod m < m := Int.tmod_lt_of_pos _ (by omega)
  have h3 := Int.lt_tmod_of_pos n (show 0 < m by omega)
  unfold modI
  exact ⟨Int.tmod_nonneg _ (by omega), Int.tmod_lt_of_pos _ (by omega)⟩
theorem nextV_bd {xs : List Int} {a : Nat} {m : Int} (hm : 1 ≤ m) : 0 ≤ nextV xs a m ∧ nextV xs a m < m := by
  unfold nextV
  split
  · exact modI_bd hm
  · omega
def vecV (xs : List Int) (a : Nat) (k : Int) : V3 := ⟨nextV xs a (2 * k + 1) - k, nextV xs (nextAt xs a) (2 * k + 1) - k, nextV xs (nextAt xs (nextAt xs a)) (2 * k + 1) - k⟩
theorem vec_spec {xs : List Int} {a : Nat} {k : Int} (hk : 0 ≤ k ∧ k ≤ 1000) (ha : a ≤ 1000) :
    Spec Tryz.prog gl 27 (some (.box [.li 1 (ics xs), .i a])) [(false, [.ptr 0 0]), (false, [.i k])] (.c true (vecV xs a k).cs) (some (.box [.li 1 (ics xs), .i (nextAt xs (nextAt xs (nextAt xs a)))])) := by
  refine spec_box' A27_comp Tryz.func27 Tryz.call27 fol Tryz.ntmps27 Tryz.results27 ?_ (Nat.le_of_ble_eq_true rfl) (idf_c rfl) (idf_c rfl) (idf_c rfl) ?_
  · intro p hp x hx
    simp at hp
    rcases hp with rfl | rfl
    · simp at hx; subst hx; exact .ptr0
    · simp at hx; subst hx; exact .none_id rfl
  have b1 := nextAt_le xs a
  have b2 := nextAt_le xs (nextAt xs a)
  have v1 := nextV_bd (xs := xs) (a := a) (m := 2 * k + 1) (by omega)
  have v2 := nextV_bd (xs := xs) (a := nextAt xs a) (m := 2 * k + 1) (by omega)
  have v3 := nextV_bd (xs := xs) (a := nextAt xs (nextAt xs a)) (m := 2 * k + 1) (by omega)
  have hp : ∀ p ∈ [(false, [AV.ptr 0 0]), (false, [AV.i (2 * k + 1)])], ∀ x ∈ p.2, x.pers = true ∨ ∃ o, x = .ptr 0 o := by
    intro p hp x hx
    simp at hp
    rcases hp with rfl | rfl
    · simp at hx; subst hx; exact .inr ⟨0, rfl⟩
    · simp at hx; subst hx; exact .inl rfl
  have hin : ∃ p ∈ [(false, [AV.ptr 0 0]), (false, [AV.i (2 * k + 1)])], ∃ o, AV.ptr 0 o ∈ p.2 := ⟨(false, [.ptr 0 0]), List.mem_cons_self, 0, List.mem_cons_self⟩
  ((conv => whnf); (repeat (refine ⟨rfl, ?_⟩; (conv => whnf))))
  rw [wr (n := 2 * k) (by omega), wr (n := 2 * k + 1) (by omega)]
  refine call_box 0 (next_spec (xs := xs) (at_ := a) (m := 2 * k + 1) (by omega) (by omega)) rfl rfl hp hin rfl rfl rfl ?_
  ((conv => whnf); (repeat (refine ⟨rfl, ?_⟩; (conv => whnf))))
  rw [wr (n := nextV xs a (2 * k + 1) - k) (by omega), wr (n := 2 * k) (by omega), wr (n := 2 * k + 1) (by omega)]
  refine call_box 0 (next_spec (xs := xs) (at_ := nextAt xs a) (m := 2 * k + 1) (by omega) (by omega)) rfl rfl hp hin rfl rfl rfl ?_
  ((conv => whnf); (repeat (refine ⟨rfl, ?_⟩; (conv => whnf))))
  rw [wr (n := nextV xs (nextAt xs a) (2 * k + 1) - k) (by omega), wr (n := 2 * k) (by omega), wr (n := 2 * k + 1) (by omega)]
  refine call_box 0 (next_spec (xs := xs) (at_ := nextAt xs (nextAt xs a)) (m := 2 * k + 1) (by omega) (by omega)) rfl rfl hp hin rfl rfl rfl ?_
  ((conv => whnf); (repeat (first | (refine ⟨rfl, ?_⟩; (conv => whnf)) | (refine ⟨Nat.le_of_ble_eq_true rfl, ?_⟩; (conv => whnf)))))
  refine retBox_ret rfl ?_ rfl
  exact eq3 rfl rfl (wr (by omega))
end Go.Proofs.YtlbafapmhjfobaaGreatDoor
namespace Go.Proofs.YtlbafapmhjfobaaGreatDoor
set_option maxRecDepth 100000
attribute [local irreducible] LoopW RngW retPure retFresh retBox retTurn
/- slices.Clone[[]collet/api.Vec,collet/api.Vec] -/
def A73 : ACode :=
 .seq
 (.reg false [⟨(some 2), .mv (.k false [.v (.slice none 0 0)]), [], none⟩])
 (.seq
 (.seq
 (.reg false [⟨(some 3), .mv (.t 0), [], none⟩,
 ⟨(some 4), .eqn false (.t 3), [0], none⟩])
 (.cond (.t 4)
 (.seq
 (.reg false [⟨(some 2), .mv (.k false [.v (.slice none 0 0)]), [], none⟩])
 (.ret))
 (.skip)))
 (.seq
 (.reg false [⟨(some 5), .bslice 3 [], [], none⟩,
 ⟨(some 6), .mv (.t 0), [], none⟩,
 ⟨(some 7), .app 3 24 (.t 5) (.t 6), [0, 1], none⟩,
 ⟨(some 2), .mv (.t 7), [2, 2, 0, 1, 2], none⟩])
 (.ret)))
theorem A73_comp : Tryz.f73.body.bind (comp Tryz.prog Tryz.f73.ntmps []) = some A73 := by kernel_rfl
end Go.Proofs.YtlbafapmhjfobaaGreatDoor
namespace Go.Proofs.YtlbafapmhjfobaaGreatDoor
set_option maxRecDepth 100000
attribute [local irreducible] LoopW RngW retPure retFresh retBox retTurn
variable {gl : Nat → Option (List AV)}
theorem clone_spec {xs : List V3} (hx : xs.length ≤ 1000000) (hne : xs ≠ []) : Spec Tryz.prog gl 73 none [(false, [.li 3 (vcs xs)])] (.c false [.own 0 xs.length]) (some (.row 3 (vcs xs))) := by
  refine spec_fresh' A73_comp Tryz.func73 Tryz.call73 fol Tryz.ntmps73 Tryz.results73 (argsB_spec rfl) (Nat.le_of_ble_eq_true rfl) (by intro x hx; simp [HE.cells] at hx) ?_ ?_
  · intro x hx; simp [SV.cells] at hx; subst hx; exact .inr rfl
  (conv => whnf)
  refine ⟨by simpa using hne, ?_⟩
  ((conv => whnf); (repeat (first | (refine ⟨rfl, ?_⟩; (conv => whnf)) | (refine ⟨fun h => Bool.noConfusion h, fun _ => ?_⟩; (conv => whnf)))))
  refine ⟨by simp [big]; omega, fun m h => by simp [ev, putS, upd] at h, ?_⟩
  (conv => whnf)
  refine retFresh_ret 4 rfl rfl ?_
  refine ⟨rfl, .inl ?_, trivial⟩
  simp [ren]
end Go.Proofs.YtlbafapmhjfobaaGreatDoor
